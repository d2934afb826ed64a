/-
  The walk over IdenAlone.
-/
import Derived.Test.YtjiodnilhfpikaaIdenI
set_option linter.unusedVariables false
set_option linter.unusedSimpArgs false
namespace Go.Proofs.Ytjiodnilhfpikaa
open Go.RowKit

set_option maxRecDepth 100000 in
set_option maxHeartbeats 4000000 in
theorem idenAlone_walk (a0 : Option Addr) (len0 cap0 : Nat) (z0 : List Int) (a1 : Int) (w : World) (hrow : IsRow .i64 w a0 len0 cap0 z0) (_h1 : (Lit.int .i64 a1).wf = true) :
    Calls Try.prog 4 #[.slice a0 len0 cap0, .int .i64 a1] w fun e w' => e = .returned (.bool true) ∧ Keeps Nope w w' := by
  have HROW := Lib.hid hrow
  clear hrow
  go_enter Try.func4, Try.ntmps4
  go_wp2_with (fail)
  refine (idenAwake_any _).mono ?_
  rintro e w1 ⟨rfl, hk1⟩
  go_wp2_with (fail)
  refine (objects_any _ _ _ _ _ (HROW.out.keeps hk1)).mono ?_
  rintro e w2 ⟨l, v, rfl, hown, hk2, hgood⟩
  obtain ⟨A2, c2, rfl, hl2, hle2⟩ := Lies.of_own hown
  have HK := Lib.hid (hk1.trans hk2)
  clear hk1 hk2 hown
  go_wp2_with (fail)
  refine (within_any _ _ _ (by omega) (by omega)).mono ?_
  rintro e w5 ⟨rfl, rfl⟩
  have hob1 := Int.emod_nonneg a1 (show (256 : Int) ≠ 0 by omega)
  have hob2 := Int.emod_lt_of_pos a1 (show (0 : Int) < 256 by omega)
  generalize a1 % 256 = ob at *
  have hfew := hgood.few
  go_wp2_with (fail)
  rcases obIndex_spec (fun o => o.1 == ob) l 0 with ⟨e, hno⟩ | ⟨i, hi, e, hyes, hbef⟩
  · refine (answer_none A2 c2 l ob _ hl2 hgood.len hob1 (by omega) e).mono ?_
    rintro e w3 ⟨rfl, hk3⟩
    have HL3 := Lib.hid (lies_more (hl2.keeps hk3))
    have HK3 := Lib.hid (HK.out.trans hk3)
    obtain ⟨nl, hnl⟩ : ∃ nl, nl = l.length := ⟨_, rfl⟩
    rw [← hnl] at hle2 hfew ⊢
    clear hl2 hk3 HK
    go_upto_block 0 with (fail)
    have B6 := Lib.hid (heap_alloc_new w3 (.cells (tcells 0 0 0 false 0 (.slice none 0 0)) 32))
    have HLW := Lib.hid (HL3.out (.cells (tcells 0 0 0 false 0 (.slice none 0 0)) 32))
    have HKW := Lib.hid (HK3.out.alloc (.cells (tcells 0 0 0 false 0 (.slice none 0 0)) 32))
    clear HL3 HK3
    generalize (w3.alloc (.cells (tcells 0 0 0 false 0 (.slice none 0 0)) 32)) = W at *
    generalize w3.heap.size = g6 at *
    obtain ⟨c6, f6⟩ := cells_at B6.out
    go_wp2_with (fail)
    go_loopw [8] (fun v8 wr => ∃ k : Nat, k ≤ nl ∧ v8 = .int .i64 (k : Int) ∧ wr = W) (fun v8 _ => (nl - (intOf v8)).toNat)
    case atStart => exact ⟨0, by omega, rfl, rfl⟩
    case round =>
      obtain ⟨k, hk, rfl, rfl⟩ := hrel
      by_cases hkn : k < nl
      · obtain ⟨b, o, rfl, x1, x2⟩ := HLW.out.ob (k := k) (by omega)
        have hne : (l[k]'(by omega)).1 ≠ ob := by
          have := hno _ (List.getElem_mem (show k < l.length by omega))
          simpa using this
        generalize l[k]'(by omega) = oo at *
        go_wp2_with (fail)
        go_roundw
        case rel => exact ⟨k + 1, by omega, by simp, trivial⟩
        case measure => simp [intOf]; omega
      · go_wp2_with (fail)
        go_ret
        exact ⟨rfl, HKW.out⟩
  · refine (answer_alone A2 c2 l ob _ hl2 hgood.len hob1 (by omega) i l[i] (List.getElem?_eq_getElem hi) (by rw [e]; omega)).mono ?_
    rintro e w3 ⟨v3, rfl, hown3, hk3⟩
    obtain ⟨A3, c3, rfl, hl3, hle3⟩ := Lies.of_own hown3
    have HL2 := Lib.hid (lies_more (hl2.keeps hk3))
    have HL3 := Lib.hid (lies_more hl3)
    have HK3 := Lib.hid (HK.out.trans hk3)
    obtain ⟨nl, hnl⟩ : ∃ nl, nl = l.length := ⟨_, rfl⟩
    have hin : i < nl := by omega
    have hobi : l[i].1 = ob := by simpa using hyes
    rw [← hnl] at hle2 hfew ⊢
    clear hl2 hk3 HK hl3 hown3
    generalize levelL l = lv at *
    go_upto_block 0 with (fail)
    have B6 := Lib.hid (heap_alloc_new w3 (.cells (tcells 43 4 lv false 0 (.slice A3 1 c3)) 32))
    have HLW := Lib.hid (HL2.out (.cells (tcells 43 4 lv false 0 (.slice A3 1 c3)) 32))
    have HLX := Lib.hid (HL3.out (.cells (tcells 43 4 lv false 0 (.slice A3 1 c3)) 32))
    have HKW := Lib.hid (HK3.out.alloc (.cells (tcells 43 4 lv false 0 (.slice A3 1 c3)) 32))
    clear HL3 HK3 HL2
    generalize (w3.alloc (.cells (tcells 43 4 lv false 0 (.slice A3 1 c3)) 32)) = W at *
    generalize w3.heap.size = g6 at *
    obtain ⟨c6, f6⟩ := cells_at B6.out
    obtain ⟨b3, o3, rfl, y1, y2⟩ := HLX.out.ob (k := 0) (by simp)
    go_wp2_with (fail)
    go_loopw [8] (fun v8 wr => ∃ k : Nat, k ≤ i ∧ v8 = .int .i64 (k : Int) ∧ wr = W) (fun v8 _ => (nl - (intOf v8)).toNat)
    case atStart => exact ⟨0, by omega, rfl, rfl⟩
    case round =>
      obtain ⟨k, hk, rfl, rfl⟩ := hrel
      obtain ⟨b, o, rfl, x1, x2⟩ := HLW.out.ob (k := k) (by omega)
      have hkn : k < nl := by omega
      by_cases hki : k = i
      · subst hki
        dsimp only [List.getElem_cons_zero] at y1 y2
        rw [hobi] at x1 y1
        generalize (l[k]'(by omega)).2 = tx at *
        simp only [Nat.zero_mul, Nat.add_zero] at y1 y2
        go_wp2_with (fail)
        go_quiet (fail)
        go_wp2
        go_ret
        exact ⟨rfl, HKW.out.drewN _⟩
      · have hne : (l[k]'(by omega)).1 ≠ ob := by
          have := hbef k (by omega)
          simpa using this
        generalize l[k]'(by omega) = oo at *
        go_wp2_with (fail)
        go_roundw
        case rel => exact ⟨k + 1, by omega, by simp, trivial⟩
        case measure => simp [intOf]; omega
end Go.Proofs.Ytjiodnilhfpikaa
