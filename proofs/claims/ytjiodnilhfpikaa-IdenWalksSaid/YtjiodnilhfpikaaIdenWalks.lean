/-
  The walk over IdenWalks.
-/
import Derived.Test.YtjiodnilhfpikaaIdenJ
set_option linter.unusedVariables false
set_option linter.unusedSimpArgs false
namespace Go.Proofs.Ytjiodnilhfpikaa
open Go.RowKit

theorem amongL_snoc (cd : Int) (l : List Ob) (k : Nat) (hk : k < l.length) : amongL cd (l.take (k + 1)) = if lastOf cd < l[k].1 then amongL cd (l.take k) else amongL cd (l.take k) ++ [l[k]] := by
  rw [List.take_add_one, List.getElem?_eq_getElem hk]
  unfold amongL
  rw [List.filter_append]
  by_cases h : lastOf cd < l[k].1
  · rw [if_pos h]; simp [overCode, h]
  · rw [if_neg h]; simp [overCode, h]
  
/-- What was told so far. -/
structure Asked (w : World) (la : List Ob) (m : Nat) (vg : Value) (at_ : Int) (W : World) : Prop where
  own : W.ownsRow w.heap.size 36 2 vg m (obsCells (la.take m))
  here : ∃ h : m < la.length, at_ = la[m].1
  keeps : Keeps Nope w W

set_option maxRecDepth 100000 in
set_option maxHeartbeats 4000000 in
theorem idenWalks_walk (a0 : Option Addr) (len0 cap0 : Nat) (z0 : List Int) (a1 : Int) (w : World) (hrow : IsRow .i64 w a0 len0 cap0 z0) (_h1 : (Lit.int .i64 a1).wf = true) :
    Calls Try.prog 3 #[.slice a0 len0 cap0, .int .i64 a1] w fun e w' => e = .returned (.bool true) ∧ Keeps Nope w w' := by
  have HROW := Lib.hid hrow
  clear hrow
  have i1 : ∀ W : World, (Instr.index 27 (.agg #[.int .i64 0, .int .i64 2, .int .i64 127, .int .i64 255]) (.int .i64 1)).run Try.prog W = .ok (.int .i64 (lastOf 1)) W := fun _ => by kernel_rfl
  have i2 : ∀ W : World, (Instr.index 27 (.agg #[.int .i64 0, .int .i64 2, .int .i64 127, .int .i64 255]) (.int .i64 2)).run Try.prog W = .ok (.int .i64 (lastOf 2)) W := fun _ => by kernel_rfl
  have i3 : ∀ W : World, (Instr.index 27 (.agg #[.int .i64 0, .int .i64 2, .int .i64 127, .int .i64 255]) (.int .i64 3)).run Try.prog W = .ok (.int .i64 (lastOf 3)) W := fun _ => by kernel_rfl
  have ii : ∀ (z : Int), (z = 1 ∨ z = 2 ∨ z = 3) → ∀ W : World, (Instr.index 27 (.agg #[.int .i64 0, .int .i64 2, .int .i64 127, .int .i64 255]) (.int .i64 z)).run Try.prog W = .ok (.int .i64 (lastOf z)) W := by
    rintro z (rfl | rfl | rfl)
    · exact i1
    · exact i2
    · exact i3
  have II := Lib.hid ii
  clear i1 i2 i3 ii
  go_enter Try.func3, Try.ntmps3
  go_wp2_with (fail)
  refine (idenAwake_any _).mono ?_
  rintro e w1 ⟨rfl, hk1⟩
  go_wp2_with (fail)
  refine (objects_any _ _ _ _ _ (HROW.out.keeps hk1)).mono ?_
  rintro e w2 ⟨l, v, rfl, hown, hk2, hgood⟩
  obtain ⟨A2, c2, rfl, hl2, hle2⟩ := Lies.of_own hown
  have HK := Lib.hid (hk1.trans hk2)
  have HL := Lib.hid hl2
  have HG := Lib.hid hgood
  have hfew := hgood.few
  clear hk1 hk2 hown hl2 hgood
  go_wp2_with (fail)
  refine (within_any _ _ _ (by omega) (by omega)).mono ?_
  rintro e w5 ⟨rfl, rfl⟩
  have hob1 := Int.emod_nonneg a1 (show (3 : Int) ≠ 0 by omega)
  have hob2 := Int.emod_lt_of_pos a1 (show (0 : Int) < 3 by omega)
  generalize a1 % 3 = zz at *
  have hc3 : 1 + zz = 1 ∨ 1 + zz = 2 ∨ 1 + zz = 3 := by omega
  have HC := Lib.hid hc3
  have hIX := II.out (1 + zz) hc3
  have HCD : Hid (0 < (amongL (1 + zz) l).length ∧ (amongL (1 + zz) l).length ≤ l.length) := ⟨HG.out.some_ hc3, List.length_filter_le _ _⟩
  clear hc3 II
  obtain ⟨nl, hnl⟩ : ∃ nl, nl = l.length := ⟨_, rfl⟩
  rw [← hnl] at hle2 hfew ⊢
  have HNL := Lib.hid hnl
  clear hnl
  go_upto_block 0 with (fail)
  have hcd1 : 1 ≤ 1 + zz := by omega
  have hcd2 : 1 + zz ≤ 3 := by omega
  clear hIX hob1 hob2
  generalize 1 + zz = cd at *
  go_cut [7, 8] from 9 (fun v7 v8 W => v8 = .int .i64 (-1) ∧ Hid (W.ownsRow w2.heap.size 36 2 v7 (amongL cd l).length (obsCells (amongL cd l))) ∧ Hid (Keeps Nope w2 W))
  case rest =>
    obtain ⟨rfl, HOW, HKW⟩ := hcut
    obtain ⟨A7, c7, rfl, hl7, hle7⟩ := Lies.of_own HOW.out
    have HL7 := Lib.hid hl7
    clear hl7
    obtain ⟨ml, hml⟩ : ∃ ml, ml = (amongL cd l).length := ⟨_, rfl⟩
    rw [← hml] at hle7 ⊢
    have HML := Lib.hid hml
    clear hml
    have hmn : ml ≤ nl := by rw [HML.out, HNL.out]; exact HCD.out.2
    go_wp2_with (fail)
    go_loopw [12, 13] (fun v12 v13 W => ∃ (k : Nat), k ≤ nl ∧ v13 = .int .i64 (k : Int) ∧ Hid (W.ownsRow wc.heap.size 36 2 v12 (amongL cd (l.take k)).length (obsCells (amongL cd (l.take k)))) ∧ Hid (Keeps Nope wc W)) (fun _ v13 _ => (nl - (intOf v13)).toNat)
    case atStart => exact ⟨0, by omega, rfl, own_nil _ _ _ _, Keeps.refl _ _⟩
    case round =>
      obtain ⟨k, hk, rfl, HO2, HK2⟩ := hrel
      by_cases hkn : k < nl
      · have hkl : k < l.length := by rw [← HNL.out]; exact hkn
        obtain ⟨b, o, rfl, x1, x2⟩ := (HL.out.keeps (HKW.out.trans HK2.out)).ob hkl
        have HS := Lib.hid (amongL_snoc cd l k hkl)
        have hq : (amongL cd (l.take k)).length ≤ 43 := by
          have h1 : (amongL cd (l.take k)).length ≤ (l.take k).length := List.length_filter_le _ _
          rw [List.length_take] at h1
          omega
        have hb1 : ∀ u ∈ obCells l[k], u.oneCell' = true := by intro u hu; simp [obCells] at hu; rcases hu with rfl | rfl <;> rfl
        have HB1 := Lib.hid hb1
        clear hb1
        by_cases hov : lastOf cd < l[k].1
        · rw [if_pos hov] at HS
          generalize l[k] = oo at *
          obtain ⟨id, tx⟩ := oo
          go_wp2_with (fail)
          go_roundw
          case rel => exact ⟨k + 1, by omega, by simp, by rw [HS.out]; exact HO2, HK2⟩
          case measure => simp [intOf]; omega
        · rw [if_neg hov] at HS
          generalize l[k] = oo at *
          obtain ⟨id, tx⟩ := oo
          have hov2 : id ≤ lastOf cd := by simpa using hov
          go_wp2_with (at_builtin; refine wpList_app rfl _ _ 24 36 _ 2 24 rfl Try.underlying24 obInfo rfl (by omega) Nope wc u12 (amongL cd (l.take k)).length (obsCells (amongL cd (l.take k))) (some ⟨_, 0, none⟩) 1 1 (obCells (id, tx)) (by rfl) (by rfl) (own_more HO2.out ((Keeps.refl Nope _).alloc _)) (lies_block (heap_alloc_new _ _)) rfl HB1.out (by omega) (by omega) (HK2.out.alloc _) ?_; intro v9 w9 hown9 hk9 hg9 _)
          go_roundw
          case rel =>
            refine ⟨k + 1, by omega, by simp, ?_, ?_⟩
            · rw [HS.out, List.length_append]
              rw [obs_snoc] at hown9
              exact hown9
            · exact hk9
          case measure => simp [intOf]; omega
      · obtain rfl : k = nl := by omega
        have e : l.take k = l := by rw [HNL.out]; exact List.take_length
        rw [e] at HO2
        obtain ⟨A8, c8, rfl, hl8, hle8⟩ := Lies.of_own HO2.out
        have HL8 := Lib.hid hl8
        clear hl8 e
        rw [← HML.out] at hle8 ⊢
        have hsame := Lib.hid (fun W (h1 : Lies W A7 (obsCells (amongL cd l))) (h2 : Lies W A8 (obsCells (amongL cd l))) => sameObs_true A7 A8 c7 c8 (amongL cd l) W h1 h2 (by rw [← HML.out]; omega))
        rw [← HML.out] at hsame
        go_wp2_with (fail)
        refine (hsame.out _ (HL7.out.keeps HK2.out) HL8.out).mono ?_
        rintro e w9 ⟨rfl, hk9⟩
        go_wp2_with (fail)
        go_ret
        exact ⟨rfl, ((HK.out.trans HKW.out).trans HK2.out).trans hk9⟩
  go_wp2_with (fail)
  go_loopw [7, 8, 9, 10, 11] (fun v7 v8 v9 v10 v11 W => ∃ (k m : Nat) (at_ : Int), k ≤ m ∧ v9 = .int .i64 (k : Int) ∧ v8 = .int .i64 at_ ∧ 0 ≤ at_ ∧ at_ ≤ 255 ∧ Hid (Asked w2 (amongL cd l) m v7 at_ W)) (fun _ _ v9 _ _ _ => (nl + 1 - (intOf v9)).toNat)
  case atStart =>
    refine ⟨0, 0, 0, by omega, rfl, rfl, by omega, by omega, ⟨own_nil _ _ _ _, ⟨HCD.out.1, ?_⟩, Keeps.refl _ _⟩⟩
    obtain ⟨x, y, z, r, e⟩ := HG.out.base
    have : overCode cd (0, x) = false := by rcases HC.out with rfl | rfl | rfl <;> rfl
    subst e
    simp [amongL, this]
  case round =>
    obtain ⟨k, m, at_, hkm, rfl, rfl, h0, h255, HAS⟩ := hrel
    have HKW := Lib.hid HAS.out.keeps
    obtain ⟨hm, hat⟩ := HAS.out.here
    have hkn : k ≤ nl := by have := HCD.out.2; rw [HNL.out]; omega
    have hm43 : (amongL cd l).length ≤ 43 := by have := HCD.out.2; rw [← HNL.out] at this; omega
    have hans := Lib.hid (answer_some A2 c2 l cd at_ wr (HL.out.keeps HKW.out) HG.out.len HG.out.short HC.out h0 h255 (HG.out.mono cd) HCD.out.1)
    rw [← HNL.out] at hans
    obtain ⟨j, hj1, hj2, et, en⟩ := told_step HG.out hm
    rw [← hat] at et en
    generalize toldOf cd at_ l = r at *
    obtain ⟨r1, r2⟩ := r
    dsimp only at et en
    subst et en
    clear hat
    generalize levelL l = lv at *
    have hlen : (((amongL cd l).drop m).take j).length = j := by rw [List.length_take, List.length_drop]; omega
    have htk : (amongL cd l).take m ++ ((amongL cd l).drop m).take j = (amongL cd l).take (m + j) := by rw [List.take_add]
    have HTK := Lib.hid htk
    have HLE := Lib.hid hlen
    clear htk hlen
    have hob1 : ∀ u ∈ obsCells (((amongL cd l).drop m).take j), u.oneCell' = true := obsCells_one _
    have HOB := Lib.hid hob1
    clear hob1
    have HOL : Hid ((obsCells (((amongL cd l).drop m).take j)).length = j * 2) := by
      show _ = _
      rw [obsCells_length, HLE.out]
    by_cases hmore : m + j < (amongL cd l).length
    · rw [dif_pos hmore] at hans
      have hnx : 0 ≤ (amongL cd l)[m + j].1 ∧ (amongL cd l)[m + j].1 ≤ 255 := HG.out.ids _ (List.mem_filter.1 (List.getElem_mem hmore)).1
      obtain ⟨nx, hnxe⟩ : ∃ nx, nx = (amongL cd l)[m + j].1 := ⟨_, rfl⟩
      rw [← hnxe] at hans hnx
      have HNX := Lib.hid hnxe
      clear hnxe
      go_wp2_with (fail)
      refine hans.out.mono ?_
      rintro e w3 ⟨v3, rfl, hown3, hk3⟩
      rw [HLE.out] at hown3
      obtain ⟨A9, c9, rfl, hl9, hle9⟩ := Lies.of_own hown3
      have HL9 := Lib.hid (lies_more hl9)
      have HO9 := Lib.hid (own_more HAS.out.own hk3)
      have HK9 := Lib.hid (HAS.out.keeps.trans hk3)
      have HLT : Hid (∀ g, u7.ownBlock = some g → g < w3.heap.size) := fun g hg => Nat.lt_of_lt_of_le (own_lt HAS.out.own g hg) hk3.size
      clear hl9 hown3 hk3 hans
      go_wp2_with (at_builtin; refine wpList_app rfl _ _ 24 36 _ 2 24 rfl Try.underlying24 obInfo rfl (by omega) Nope w2 u7 m (obsCells ((amongL cd l).take m)) A9 j c9 (obsCells (((amongL cd l).drop m).take j)) (by rfl) (by rfl) (own_more HO9.out ((Keeps.refl Nope _).alloc _)) (HL9.out _) HOL.out HOB.out (by omega) (by omega) (HK9.out.alloc _) ?_
                   intro v9 w9 hown9 hk9 hg9 _
                   obtain ⟨c10, f10⟩ := cells_at ((hg9.block w3.heap.size (heap_lt (heap_alloc_new w3 _)) (fun e => by have := HLT.out _ e.symm; omega)).trans (heap_alloc_new w3 _)))
      have happ := HTK.out
      rw [show obsCells ((amongL cd l).take m) ++ obsCells (((amongL cd l).drop m).take j) = obsCells ((amongL cd l).take m ++ ((amongL cd l).drop m).take j) by simp [obsCells], happ] at hown9
      go_roundw
      case rel => exact ⟨k + 1, m + j, nx, by omega, by simp, rfl, hnx.1, hnx.2, hown9, ⟨hmore, HNX.out⟩, hk9⟩
      case measure => simp [intOf]; omega
    · rw [dif_neg hmore] at hans
      go_wp2_with (fail)
      refine hans.out.mono ?_
      rintro e w3 ⟨v3, rfl, hown3, hk3⟩
      rw [HLE.out] at hown3
      obtain ⟨A9, c9, rfl, hl9, hle9⟩ := Lies.of_own hown3
      have HL9 := Lib.hid (lies_more hl9)
      have HO9 := Lib.hid (own_more HAS.out.own hk3)
      have HK9 := Lib.hid (HAS.out.keeps.trans hk3)
      have HLT : Hid (∀ g, u7.ownBlock = some g → g < w3.heap.size) := fun g hg => Nat.lt_of_lt_of_le (own_lt HAS.out.own g hg) hk3.size
      clear hl9 hown3 hk3 hans
      go_wp2_with (at_builtin; refine wpList_app rfl _ _ 24 36 _ 2 24 rfl Try.underlying24 obInfo rfl (by omega) Nope w2 u7 m (obsCells ((amongL cd l).take m)) A9 j c9 (obsCells (((amongL cd l).drop m).take j)) (by rfl) (by rfl) (own_more HO9.out ((Keeps.refl Nope _).alloc _)) (HL9.out _) HOL.out HOB.out (by omega) (by omega) (HK9.out.alloc _) ?_
                   intro v9 w9 hown9 hk9 hg9 _
                   obtain ⟨c10, f10⟩ := cells_at ((hg9.block w3.heap.size (heap_lt (heap_alloc_new w3 _)) (fun e => by have := HLT.out _ e.symm; omega)).trans (heap_alloc_new w3 _)))
      have happ := HTK.out
      rw [show obsCells ((amongL cd l).take m) ++ obsCells (((amongL cd l).drop m).take j) = obsCells ((amongL cd l).take m ++ ((amongL cd l).drop m).take j) by simp [obsCells], happ] at hown9
      go_meet
      case rel =>
        have e : m + j = (amongL cd l).length := by omega
        rw [e, List.take_length] at hown9
        exact ⟨rfl, hown9, hk9⟩
end Go.Proofs.Ytjiodnilhfpikaa
