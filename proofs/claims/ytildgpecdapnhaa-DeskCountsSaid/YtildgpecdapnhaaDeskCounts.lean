/-
  The walk over the statement DeskCounts: how many places are not free is how many were opened less those that were closed.
-/
import Derived.Test.YtildgpecdapnhaaDeskPlays
import Derived.Test.YtildgpecdapnhaaDeskPure2
set_option linter.unusedVariables false
set_option linter.unusedSimpArgs false
namespace Go.Proofs.Ytildgpecdapnhaa
open Go.RowKit

structure One (w0 : World) (g : Nat) (w : World) (st : List Int) : Prop where
  a : IsDesk w g 40 8 st
  ok : DeskOk 8 st
  keeps : Keeps Nope w0 w
theorem One.step {w0 : World} {g : Nat} {w w1 : World} {st st' : List Int} (h : One w0 g w st) (h1 : w0.heap.size ≤ g) (ha : turned g 40 8 st' w w1) (ho : DeskOk 8 st') : One w0 g w1 st' :=
  ⟨ha.1, ho, h.keeps.then ha.2 (fun i hi e => by have : i = g := e; omega)⟩
theorem One.more {w0 : World} {g : Nat} {w w1 : World} {st : List Int} (h : One w0 g w st) (hk : Keeps Nope w w1) : One w0 g w1 st :=
  ⟨h.a.kept (hk.block _ h.a.lt (fun f => f)), h.ok, h.keeps.trans hk⟩
theorem turn_eq {m : Int} {st : List Int} {c to : Int} {fs : List Int} : (deskTurn m st c to fs).1 = decide (deskState m st c ∈ fs) := by
  unfold deskTurn
  split <;> simp_all

set_option maxRecDepth 100000 in
set_option maxHeartbeats 4000000 in
theorem deskCounts_walk (a2 : Option Addr) (len2 cap2 : Nat) (z2 : List Int) (w : World) (hrow : IsRow .i64 w a2 len2 cap2 z2) :
    Calls Try.prog 5 #[.slice a2 len2 cap2] w fun e w' => e = .returned (.bool true) ∧ Keeps Nope w w' := by
  by_cases hlen : len2 ≤ 100
  · go_enter Try.func5, Try.ntmps5
    go_wp2_with (go_at_call 6; (with_reducible refine (deskAwake_any _).mono ?_); rintro e wA ⟨rfl, hA⟩)
    go_wp2_with (fail)
    refine (deskNew_any _ _).mono ?_
    rintro e w1 ⟨rfl, hd1, hk1⟩
    go_wp2_with (fail)
    have hB : One w wA.heap.size w1 (List.replicate 32 0) := ⟨hd1, DeskOk.new 8, hA.trans hk1⟩
    have e1 : w.heap.size ≤ wA.heap.size := hA.size
    generalize wA.heap.size = g at *
    clear hd1 hk1 hA
    have hz : many (List.replicate 32 0) = 0 := by decide
    go_loopw [4, 5] (fun n i wr => ∃ k st, k ≤ len2 ∧ Hid (One w g wr st) ∧ n = .int .i64 ((many st : Nat) : Int) ∧ i = .int .i64 ((k : Nat) : Int)) (fun _ i _ => (len2 - (intOf i)).toNat)
    case atStart => exact ⟨0, _, by omega, hB, by rw [hz]; rfl, rfl⟩
    case round =>
      obtain ⟨k, st, hk, HB, rfl, rfl⟩ := hrel
      clear hB hz
      by_cases hlt : k < len2
      · obtain ⟨x, rfl, hc, hi⟩ := hrow.at_ hlt
        have hc : wr.cell? (x.add k) = some (.int .i64 (z2.getD k 0)) := (HB.out.keeps.cell (p := x.add k) (World.block_lt_of_cell? w _ hc) (fun f => f)).trans hc
        generalize z2.getD k 0 = z at *
        clear hrow
        have hcr := dig_range z 4 9 (by omega)
        go_wp2_with (fail)
        refine (digit_any _ _ _ _ hi (by omega) (by omega) (by omega)).mono ?_
        rintro e w' ⟨rfl, rfl⟩
        generalize dig z 4 9 = c0 at *
        go_wp2_with (fail)
        refine (within_any _ _ _ (by omega) (by omega)).mono ?_
        rintro e w' ⟨rfl, rfl⟩
        have hv := Int.emod_nonneg z (by omega : (4 : Int) ≠ 0)
        have hv4 := Int.emod_lt_of_pos z (by omega : (0 : Int) < 4)
        generalize z % 4 = v at *
        have hle := desk_many_le HB.out.ok
        rcases (by omega : v = 0 ∨ v = 1 ∨ v = 2 ∨ v = 3) with rfl | rfl | rfl | rfl
        iterate 2
          · by_cases hm : (many st : Int) < 8
            · have HO := desk_opens HB.out.ok
              have hm2 := HO.2
              have hb := HO.1
              rw [if_pos hm] at hm2
              rw [decide_eq_true hm] at hb
              have HM := Lib.hid hm2
              have HB2 := Lib.hid hb
              clear HO hm2 hb
              go_wp2_with (fail)
              refine (deskOpen_any _ _ _ _ HB.out.a HB.out.ok.hi).mono ?_
              rintro e wO ⟨rfl, hO⟩
              have HC : Hid (One w g wO _) := HB.out.step (by omega) hO HB.out.ok.open
              rw [HB2.out]
              clear hO HB HB2
              generalize (deskOpen 8 st).2.2 = st2 at *
              generalize (deskOpen 8 st).1 = q at *
              go_wp2_with (fail)
              refine (deskMany_any _ _ _ _ HC.out.a).mono ?_
              rintro e wM ⟨rfl, hM⟩
              have HD : Hid (One w g wM _) := HC.out.more hM
              clear HC
              rw [show ((many st2 : Nat) : Int) = (many st : Int) + 1 by rw [HM.out]; omega]
              go_wp2
              go_roundw
              case rel => exact ⟨k + 1, _, by omega, HD, by rw [HM.out]; go_num, by go_num⟩
              case measure => simp [intOf]; omega
            · have HO := desk_opens HB.out.ok
              have hm2 := HO.2
              have hb := HO.1
              rw [if_neg hm] at hm2
              rw [decide_eq_false hm] at hb
              have HM := Lib.hid hm2
              have HB2 := Lib.hid hb
              clear HO hm2 hb
              go_wp2_with (fail)
              refine (deskOpen_any _ _ _ _ HB.out.a HB.out.ok.hi).mono ?_
              rintro e wO ⟨rfl, hO⟩
              have HC : Hid (One w g wO _) := HB.out.step (by omega) hO HB.out.ok.open
              rw [HB2.out]
              clear hO HB HB2
              generalize (deskOpen 8 st).2.2 = st2 at *
              generalize (deskOpen 8 st).1 = q at *
              go_wp2_with (fail)
              refine (deskMany_any _ _ _ _ HC.out.a).mono ?_
              rintro e wM ⟨rfl, hM⟩
              have HD : Hid (One w g wM _) := HC.out.more hM
              clear HC
              rw [show ((many st2 : Nat) : Int) = (many st : Int) by rw [HM.out]; rfl]
              go_wp2
              go_roundw
              case rel => exact ⟨k + 1, _, by omega, HD, by rw [HM.out]; go_num, by go_num⟩
              case measure => simp [intOf]; omega
        · by_cases hs : deskState 8 st c0 = 0
          · have hs' : (deskState 8 st c0 != 0) = false := by simp [hs]
            have HT := desk_turns HB.out.ok (c := c0) (to := 0) (fs := [1, 2]) (by simp)
            have hin : ¬ deskState 8 st c0 ∈ [1, 2] := by rw [hs]; simp
            have hb : (deskTurn 8 st c0 0 [1, 2]).1 = false := by rw [turn_eq]; simp [hin]
            have h1 := HT.1
            rw [if_neg (fun x => hin x.1)] at h1
            clear hin; have hin := hs
            have HM := Lib.hid h1
            have HB2 := Lib.hid hb
            clear HT h1 hb hin hs
            go_wp2_with (fail)
            refine (deskState_any _ _ _ _ _ HB.out.a HB.out.ok.hi).mono ?_
            rintro e w' ⟨rfl, rfl⟩
            go_wp2_with (fail)
            refine (deskClose_any _ _ _ _ _ HB.out.a HB.out.ok.hi).mono ?_
            rintro e wO ⟨rfl, hO⟩
            have HC : Hid (One w g wO _) := HB.out.step (by omega) hO (HB.out.ok.turn _ (by simp) (.inl rfl))
            rw [HB2.out]
            clear hO HB HB2
            generalize (deskTurn 8 st c0 0 [1, 2]).2 = st2 at *
            go_wp2_with (fail)
            refine (deskMany_any _ _ _ _ HC.out.a).mono ?_
            rintro e wM ⟨rfl, hM⟩
            have HD : Hid (One w g wM _) := HC.out.more hM
            clear HC
            rw [show ((many st2 : Nat) : Int) = (many st : Int) by rw [HM.out]; rfl]
            go_wp2
            go_roundw
            case rel => exact ⟨k + 1, _, by omega, HD, by rw [HM.out]; go_num, by go_num⟩
            case measure => simp [intOf]; omega
          · have hs' : (deskState 8 st c0 != 0) = true := by simp [hs]
            have HT := desk_turns HB.out.ok (c := c0) (to := 0) (fs := [1, 2]) (by simp)
            have hin : deskState 8 st c0 ∈ [1, 2] := by rcases HB.out.ok.stands.state 8 c0 with h | h | h <;> simp_all
            have hb : (deskTurn 8 st c0 0 [1, 2]).1 = true := by rw [turn_eq]; simp [hin]
            have h1 := HT.1
            rw [if_pos ⟨hin, rfl⟩] at h1
            have hp := HT.2 hin
            have HM := Lib.hid h1
            have HB2 := Lib.hid hb
            clear HT h1 hb hin hs
            go_wp2_with (fail)
            refine (deskState_any _ _ _ _ _ HB.out.a HB.out.ok.hi).mono ?_
            rintro e w' ⟨rfl, rfl⟩
            go_wp2_with (fail)
            refine (deskClose_any _ _ _ _ _ HB.out.a HB.out.ok.hi).mono ?_
            rintro e wO ⟨rfl, hO⟩
            have HC : Hid (One w g wO _) := HB.out.step (by omega) hO (HB.out.ok.turn _ (by simp) (.inl rfl))
            rw [HB2.out]
            clear hO HB HB2
            generalize (deskTurn 8 st c0 0 [1, 2]).2 = st2 at *
            go_wp2_with (fail)
            refine (deskMany_any _ _ _ _ HC.out.a).mono ?_
            rintro e wM ⟨rfl, hM⟩
            have HD : Hid (One w g wM _) := HC.out.more hM
            clear HC
            rw [show ((many st2 : Nat) : Int) = (many st : Int) - 1 by rw [HM.out]; omega]
            go_wp2
            go_roundw
            case rel => exact ⟨k + 1, _, by omega, HD, by rw [HM.out]; go_num, by go_num⟩
            case measure => simp [intOf]; omega
        · by_cases hs : deskState 8 st c0 = 1
          · have hs' : (deskState 8 st c0 == 1) = true := by simp [hs]
            have HT := desk_turns HB.out.ok (c := c0) (to := 2) (fs := [1]) (by simp)
            have hb : (deskTurn 8 st c0 2 [1]).1 = true := by rw [turn_eq]; simp [hs]
            have h1 := HT.1
            rw [if_neg (fun x => absurd x.2 (by decide))] at h1
            have HM := Lib.hid h1
            have HB2 := Lib.hid hb
            clear HT h1 hb hs
            go_wp2_with (fail)
            refine (deskState_any _ _ _ _ _ HB.out.a HB.out.ok.hi).mono ?_
            rintro e w' ⟨rfl, rfl⟩
            go_wp2_with (fail)
            refine (deskEnd_any _ _ _ _ _ HB.out.a HB.out.ok.hi).mono ?_
            rintro e wO ⟨rfl, hO⟩
            have HC : Hid (One w g wO _) := HB.out.step (by omega) hO (HB.out.ok.turn _ (by simp) (.inr (.inr rfl)))
            rw [HB2.out]
            clear hO HB HB2
            generalize (deskTurn 8 st c0 2 [1]).2 = st2 at *
            go_wp2_with (fail)
            refine (deskMany_any _ _ _ _ HC.out.a).mono ?_
            rintro e wM ⟨rfl, hM⟩
            have HD : Hid (One w g wM _) := HC.out.more hM
            clear HC
            rw [show ((many st2 : Nat) : Int) = (many st : Int) by rw [HM.out]; rfl]
            go_wp2
            go_roundw
            case rel => exact ⟨k + 1, _, by omega, HD, by rw [HM.out]; go_num, by go_num⟩
            case measure => simp [intOf]; omega
          · have hs' : (deskState 8 st c0 == 1) = false := by simp [hs]
            have HT := desk_turns HB.out.ok (c := c0) (to := 2) (fs := [1]) (by simp)
            have hb : (deskTurn 8 st c0 2 [1]).1 = false := by rw [turn_eq]; simp [hs]
            have h1 := HT.1
            rw [if_neg (fun x => absurd x.2 (by decide))] at h1
            have HM := Lib.hid h1
            have HB2 := Lib.hid hb
            clear HT h1 hb hs
            go_wp2_with (fail)
            refine (deskState_any _ _ _ _ _ HB.out.a HB.out.ok.hi).mono ?_
            rintro e w' ⟨rfl, rfl⟩
            go_wp2_with (fail)
            refine (deskEnd_any _ _ _ _ _ HB.out.a HB.out.ok.hi).mono ?_
            rintro e wO ⟨rfl, hO⟩
            have HC : Hid (One w g wO _) := HB.out.step (by omega) hO (HB.out.ok.turn _ (by simp) (.inr (.inr rfl)))
            rw [HB2.out]
            clear hO HB HB2
            generalize (deskTurn 8 st c0 2 [1]).2 = st2 at *
            go_wp2_with (fail)
            refine (deskMany_any _ _ _ _ HC.out.a).mono ?_
            rintro e wM ⟨rfl, hM⟩
            have HD : Hid (One w g wM _) := HC.out.more hM
            clear HC
            rw [show ((many st2 : Nat) : Int) = (many st : Int) by rw [HM.out]; rfl]
            go_wp2
            go_roundw
            case rel => exact ⟨k + 1, _, by omega, HD, by rw [HM.out]; go_num, by go_num⟩
            case measure => simp [intOf]; omega
      · go_wp2
        go_ret
        exact ⟨rfl, HB.out.keeps⟩
  · have hlt : 100 < len2 := by omega
    go_enter Try.func5, Try.ntmps5
    go_wp2_with (go_at_call 6; (with_reducible refine (deskAwake_any _).mono ?_); rintro e wA ⟨rfl, hA⟩)
    go_ret
    exact ⟨rfl, hA⟩
end Go.Proofs.Ytildgpecdapnhaa
