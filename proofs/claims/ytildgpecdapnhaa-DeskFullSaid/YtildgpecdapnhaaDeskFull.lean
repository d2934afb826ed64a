/-
  The walk over the statement DeskFull: as many places are opened as there are, each at the lowest; then no more till one is closed; that one is taken next.
-/
import Derived.Test.YtildgpecdapnhaaDeskPlays
import Derived.Test.YtildgpecdapnhaaDeskPure2
set_option linter.unusedVariables false
set_option linter.unusedSimpArgs false
namespace Go.Proofs.Ytildgpecdapnhaa
open Go.RowKit

def full (k : Nat) : List Int := List.replicate k 1 ++ List.replicate (32 - k) 0
theorem full_get {k j : Nat} (hk : k ≤ 32) : (full k).getD j 0 = if j < k then 1 else 0 := by
  unfold full
  rw [List.getD_eq_getElem?_getD]
  by_cases h : j < k
  · rw [List.getElem?_append_left (by simpa using h), List.getElem?_replicate, if_pos h, if_pos h]; rfl
  · rw [List.getElem?_append_right (by simpa using h), List.getElem?_replicate, if_neg h]
    split <;> rfl
theorem full_len {k : Nat} (hk : k ≤ 32) : (full k).length = 32 := by simp [full]; omega
theorem full_set {k : Nat} (hk : k < 32) : (full k).set k 1 = full (k + 1) := by
  apply List.ext_getElem (by simp [full]; omega)
  intro j h1 h2
  have a := full_get (k := k + 1) (j := j) (by omega)
  rw [List.getD_eq_getElem?_getD, List.getElem?_eq_getElem h2] at a
  have b := full_get (k := k) (j := j) (by omega)
  by_cases e : j = k
  · subst e
    simp only [Option.getD_some] at a
    rw [a, List.getElem_set_self, if_pos (by omega)]
  · rw [List.getElem_set_ne (fun x => e x.symm)]
    rw [List.getD_eq_getElem?_getD, List.getElem?_eq_getElem (by simpa using h1)] at b
    simp only [Option.getD_some] at a b
    rw [a, b]
    by_cases h : j < k
    · rw [if_pos h, if_pos (by omega)]
    · rw [if_neg h, if_neg (by omega)]
theorem lowest_at {st : List Int} {m : Int} {c : Nat} (hc : (c : Int) < m) (hz : st.getD c 0 = 0) : ∀ j i : Nat, i ≤ c → c < i + j → (∀ k, i ≤ k → k < c → st.getD k 0 ≠ 0) → lowest st m i j = some c
  | 0, i, h1, h2, _ => by omega
  | j + 1, i, h1, h2, h3 => by
    unfold lowest
    rw [if_pos (by omega)]
    by_cases e : i = c
    · subst e; rw [if_pos hz]
    · rw [if_neg (h3 i (Nat.le_refl _) (by omega))]
      exact lowest_at hc hz j (i + 1) (by omega) (by omega) (fun k a b => h3 k (by omega) b)
theorem full_open {m : Int} {k : Nat} (h : (k : Int) < m) (hm : m ≤ 32) : deskOpen m (full k) = ((k : Int), true, full (k + 1)) := by
  unfold deskOpen
  rw [lowest_at h (by rw [full_get (by omega), if_neg (by omega)]) 33 0 (by omega) (by omega) (fun j _ hj => by rw [full_get (by omega), if_pos hj]; decide)]
  simp only [openTo]
  rw [full_set (by omega)]
/-- Every place of m is taken. -/
def AllOn (m : Int) (st : List Int) : Prop := st.length = 32 ∧ 0 ≤ m ∧ m ≤ 32 ∧ ∀ k : Nat, (k : Int) < m → st.getD k 0 = 1 ∨ st.getD k 0 = 2
theorem AllOn.full {k : Nat} (h : k ≤ 32) : AllOn (k : Int) (full k) := ⟨full_len h, by omega, by omega, fun j hj => .inl (by rw [full_get h, if_pos (by omega)])⟩
theorem lowest_never {st : List Int} {m : Int} : ∀ (j i : Nat), (∀ k : Nat, (k : Int) < m → st.getD k 0 ≠ 0) → lowest st m i j = none
  | 0, _, _ => rfl
  | j + 1, i, h => by
    unfold lowest
    split
    · rename_i hi
      rw [if_neg (h i hi)]
      exact lowest_never j (i + 1) h
    · rfl
theorem AllOn.none {m : Int} {st : List Int} (h : AllOn m st) : deskOpen m st = (0, false, st) := by
  unfold deskOpen
  rw [lowest_never 33 0 (fun k hk => by rcases h.2.2.2 k hk with e | e <;> rw [e] <;> decide)]
  rfl
theorem AllOn.state {m : Int} {st : List Int} (h : AllOn m st) {c : Int} (h0 : 0 ≤ c) (hc : c < m) : deskState m st c = st.getD c.toNat 0 := by unfold deskState; rw [if_pos ⟨h0, hc⟩]
theorem getD_set {st : List Int} {c : Nat} {x : Int} (h : c < st.length) : (st.set c x).getD c 0 = x := by
  rw [List.getD_eq_getElem?_getD, List.getElem?_set_self h]; rfl
theorem AllOn.close {m : Int} {st : List Int} (h : AllOn m st) {c : Int} (h0 : 0 ≤ c) (hc : c < m) : deskTurn m st c 0 [1, 2] = (true, st.set c.toNat 0) := by
  unfold deskTurn
  rw [if_pos (by rw [h.state h0 hc]; rcases h.2.2.2 c.toNat (by omega) with e | e <;> rw [e] <;> simp)]
theorem closed_state {m : Int} {st : List Int} (h : AllOn m st) {c : Int} (h0 : 0 ≤ c) (hc : c < m) (x : Int) : deskState m (st.set c.toNat x) c = x := by
  unfold deskState
  rw [if_pos ⟨h0, hc⟩, getD_set (by rw [h.1]; have := h.2.2.1; omega)]
theorem closed_again {m : Int} {st : List Int} (h : AllOn m st) {c : Int} (h0 : 0 ≤ c) (hc : c < m) : deskTurn m (st.set c.toNat 0) c 0 [1, 2] = (false, st.set c.toNat 0) := by
  unfold deskTurn
  rw [if_neg (by rw [closed_state h h0 hc]; simp)]
theorem closed_open {m : Int} {st : List Int} (h : AllOn m st) {c : Int} (h0 : 0 ≤ c) (hc : c < m) : deskOpen m (st.set c.toNat 0) = (c, true, (st.set c.toNat 0).set c.toNat 1) := by
  have h2 := h.2.2.1
  unfold deskOpen
  rw [lowest_at (c := c.toNat) (by omega) (getD_set (by rw [h.1]; omega)) 33 0 (by omega) (by omega) (fun j _ hj => by
    rw [List.getD_eq_getElem?_getD, List.getElem?_set_ne (by omega), ← List.getD_eq_getElem?_getD]
    rcases h.2.2.2 j (by omega) with e | e <;> rw [e] <;> decide)]
  simp only [openTo]
  rw [Int.toNat_of_nonneg h0]
theorem opened_state {m : Int} {st : List Int} (h : AllOn m st) {c : Int} (h0 : 0 ≤ c) (hc : c < m) : deskState m ((st.set c.toNat 0).set c.toNat 1) c = 1 := by
  unfold deskState
  rw [if_pos ⟨h0, hc⟩, getD_set (by rw [List.length_set, h.1]; have := h.2.2.1; omega)]
theorem AllOn.ended {m : Int} {st : List Int} (h : AllOn m st) (c : Int) : AllOn m (st.set c.toNat 2) := by
  refine ⟨by simp [h.1], h.2.1, h.2.2.1, fun k hk => ?_⟩
  by_cases e : c.toNat = k
  · subst e; right; exact getD_set (by rw [h.1]; have := h.2.2.1; omega)
  · rw [List.getD_eq_getElem?_getD, List.getElem?_set_ne e, ← List.getD_eq_getElem?_getD]; exact h.2.2.2 k hk
theorem full_end {k : Nat} (hk : k ≤ 32) {c : Int} (h0 : 0 ≤ c) (hc : c < (k : Int)) : deskTurn (k : Int) (full k) c 2 [1] = (true, (full k).set c.toNat 2) := by
  unfold deskTurn
  rw [if_pos (by rw [(AllOn.full hk).state h0 hc, full_get hk, if_pos (by omega)]; simp)]
theorem end_again {m : Int} {st : List Int} (h : AllOn m st) {c : Int} (h0 : 0 ≤ c) (hc : c < m) : deskTurn m (st.set c.toNat 2) c 2 [1] = (false, st.set c.toNat 2) := by
  unfold deskTurn
  rw [if_neg (by rw [closed_state h h0 hc]; simp)]
theorem many_full' {k : Nat} (hk : k ≤ 32) : many (full k) = k := by
  simp [many, full]
theorem full0_close : deskTurn 0 (full 0) 0 0 [1, 2] = (false, full 0) := by decide

structure OneAt (w0 : World) (g : Nat) (m : Int) (w : World) (st : List Int) : Prop where
  a : IsDesk w g 40 m st
  keeps : Keeps Nope w0 w
theorem OneAt.step {w0 : World} {g : Nat} {m : Int} {w w1 : World} {st st' : List Int} (h : OneAt w0 g m w st) (h1 : w0.heap.size ≤ g) (ha : turned g 40 m st' w w1) : OneAt w0 g m w1 st' :=
  ⟨ha.1, h.keeps.then ha.2 (fun i hi e => by have : i = g := e; omega)⟩
theorem OneAt.more {w0 : World} {g : Nat} {m : Int} {w w1 : World} {st : List Int} (h : OneAt w0 g m w st) (hk : Keeps Nope w w1) : OneAt w0 g m w1 st :=
  ⟨h.a.kept (hk.block _ h.a.lt (fun f => f)), h.keeps.trans hk⟩
theorem clamp_of {x : Int} (h0 : 0 ≤ x) : clampDesk x = ((min x 32).toNat : Int) := by unfold clampDesk; omega

set_option maxRecDepth 100000 in
set_option maxHeartbeats 4000000 in
theorem deskFull_walk (a0 a1 : Int) (a2 : Bool) (w : World) (_w0 : (Lit.int .i64 a0).wf = true) (_w1 : (Lit.int .i64 a1).wf = true) :
    Calls Try.prog 4 #[.int .i64 a0, .int .i64 a1, .bool a2] w fun e w' => e = .returned (.bool true) ∧ Keeps Nope w w' := by
  clear _w0 _w1
  go_enter Try.func4, Try.ntmps4
  go_wp2_with (fail)
  refine (deskAwake_any _).mono ?_
  rintro e wA ⟨rfl, hA⟩
  go_wp2_with (fail)
  refine (within_any _ _ _ (by omega) (by omega)).mono ?_
  rintro e w' ⟨rfl, rfl⟩
  have hx0 := Int.emod_nonneg a0 (by omega : (34 : Int) ≠ 0)
  have hx1 := Int.emod_lt_of_pos a0 (by omega : (0 : Int) < 34)
  generalize a0 % 34 = x at *
  go_wp2_with (fail)
  refine (deskNew_any _ _).mono ?_
  rintro e w1 ⟨rfl, hd1, hk1⟩
  rw [clamp_of hx0] at hd1
  obtain ⟨mm, hmm⟩ : ∃ n : Nat, n = (min x 32).toNat := ⟨_, rfl⟩
  rw [← hmm] at hd1
  have hm32 : mm ≤ 32 := by omega
  have hmin : (if 32 < x then (32 : Int) else x) = (mm : Int) := by split <;> omega
  have hzero : mm = 0 ↔ x = 0 := by omega
  have HZERO := Lib.hid hzero
  clear hzero hmm
  have hB : OneAt w wA.heap.size (mm : Int) w1 (full 0) := ⟨hd1, hA.trans hk1⟩
  have eg : w.heap.size ≤ wA.heap.size := hA.size
  generalize wA.heap.size = g at *
  clear hd1 hk1 hA
  go_wp2_with (fail)
  go_loopw [8] (fun i wr => ∃ k : Nat, k ≤ mm ∧ Hid (OneAt w g mm wr (full k)) ∧ i = .int .i64 ((k : Nat) : Int)) (fun i _ => (mm - (intOf i)).toNat)
  case atStart => exact ⟨0, by omega, hB, rfl⟩
  case round =>
    obtain ⟨k, hk, HB, rfl⟩ := hrel
    clear hB
    by_cases hlt : k < mm
    · have eo := full_open (m := (mm : Int)) (k := k) (by omega) (by omega)
      go_wp2_with (fail)
      refine (deskOpen_any _ _ _ _ HB.out.a (by omega)).mono ?_
      rintro e wO ⟨rfl, hO⟩
      rw [eo] at hO ⊢
      clear eo
      have HC : Hid (OneAt w g mm wO (full (k + 1))) := HB.out.step (by omega) hO
      clear hO HB
      have es : deskState (mm : Int) (full (k + 1)) (k : Int) = 1 := by
        unfold deskState
        rw [if_pos (by omega), full_get (by omega)]
        simp
      have HS := Lib.hid es
      have HM := Lib.hid (many_full' (k := k + 1) (by omega))
      clear es
      go_wp2_with (fail)
      refine (deskState_any _ _ _ _ _ HC.out.a (by omega)).mono ?_
      rintro e w' ⟨rfl, rfl⟩
      rw [HS.out]
      go_wp2_with (fail)
      refine (deskMany_any _ _ _ _ HC.out.a).mono ?_
      rintro e wM ⟨rfl, hM⟩
      have HD : Hid (OneAt w g mm wM _) := HC.out.more hM
      clear HC
      rw [show ((many (full (k + 1)) : Nat) : Int) = (k : Int) + 1 by rw [HM.out]; omega]
      go_wp2
      go_roundw
      case rel => exact ⟨k + 1, by omega, HD, by go_num⟩
      case measure => simp [intOf]; omega
    · obtain rfl : k = mm := by omega
      have HO := AllOn.full hm32
      have en := HO.none
      have HA := Lib.hid HO
      clear HO
      go_wp2_with (fail)
      refine (deskOpen_any _ _ _ _ HB.out.a (by omega)).mono ?_
      rintro e wO ⟨rfl, hO⟩
      rw [en] at hO ⊢
      have HC : Hid (OneAt w g k wO (full k)) := HB.out.step (by omega) hO
      clear hO HB en
      by_cases hk0 : k = 0
      · obtain rfl := HZERO.out.1 hk0
        subst hk0
        go_wp2_with (fail)
        refine (deskClose_any _ _ _ _ _ HC.out.a (by omega)).mono ?_
        rintro e wO ⟨rfl, hO⟩
        have hO : turned g _ 0 (deskTurn 0 (full 0) 0 0 [1, 2]).2 _ wO := hO
        have er : (deskTurn (((0 : Nat) : Int)) (full 0) 0 0 [1, 2]).1 = false := by decide
        rw [er]
        rw [full0_close] at hO
        have HX : Hid (OneAt w g 0 wO (full 0)) := (show OneAt w g 0 _ (full 0) from HC.out).step (by omega) hO
        clear hO HC er
        go_wp2_with (fail)
        refine (deskMany_any _ _ _ _ HX.out.a).mono ?_
        rintro e wM ⟨rfl, hM⟩
        have HD : Hid (OneAt w g 0 wM _) := HX.out.more hM
        rw [many_full' (k := 0) (by omega)]
        go_wp2
        go_ret
        exact ⟨rfl, HD.out.keeps⟩
      · have hx : (x == 0) = false := by
          have := HZERO.out
          simp
          omega
        go_wp2_with (fail)
        refine (within_any _ _ _ (by omega) (by omega)).mono ?_
        rintro e w' ⟨rfl, rfl⟩
        have hc0 := Int.emod_nonneg a1 (by omega : (k : Int) ≠ 0)
        have hc1 := Int.emod_lt_of_pos a1 (by omega : (0 : Int) < (k : Int))
        generalize a1 % (k : Int) = c at *
        cases a2
        · have HX := HC
          clear HC
          have en := HA.out.none
          go_wp2_with (fail)
          refine (deskOpen_any _ _ _ _ HX.out.a (by omega)).mono ?_
          rintro e wP ⟨rfl, hO⟩
          rw [en] at hO ⊢
          have HY : Hid (OneAt w g k wP _) := HX.out.step (by omega) hO
          clear hO HX en
          have ec := HA.out.close hc0 hc1
          have ec2 := closed_again HA.out hc0 hc1
          have ec3 := closed_state HA.out hc0 hc1 0
          have ec4 := closed_open HA.out hc0 hc1
          have ec5 := opened_state HA.out hc0 hc1
          go_wp2_with (fail)
          refine (deskClose_any _ _ _ _ _ HY.out.a (by omega)).mono ?_
          rintro e wQ ⟨rfl, hO⟩
          rw [ec] at hO ⊢
          have HX : Hid (OneAt w g k wQ _) := HY.out.step (by omega) hO
          clear hO HY ec
          have EC2 := Lib.hid ec2
          have EC3 := Lib.hid ec3
          have EC4 := Lib.hid ec4
          have EC5 := Lib.hid ec5
          clear ec2 ec3 ec4 ec5
          go_wp2_with (fail)
          refine (deskClose_any _ _ _ _ _ HX.out.a (by omega)).mono ?_
          rintro e wR ⟨rfl, hO⟩
          rw [EC2.out] at hO ⊢
          have HY : Hid (OneAt w g k wR _) := HX.out.step (by omega) hO
          clear hO HX
          go_wp2_with (fail)
          refine (deskState_any _ _ _ _ _ HY.out.a (by omega)).mono ?_
          rintro e w' ⟨rfl, rfl⟩
          rw [EC3.out]
          go_wp2_with (fail)
          refine (deskOpen_any _ _ _ _ HY.out.a (by omega)).mono ?_
          rintro e wS ⟨rfl, hO⟩
          rw [EC4.out] at hO ⊢
          have HX : Hid (OneAt w g k wS _) := HY.out.step (by omega) hO
          clear hO HY
          go_wp2_with (fail)
          refine (deskState_any _ _ _ _ _ HX.out.a (by omega)).mono ?_
          rintro e w' ⟨rfl, rfl⟩
          rw [EC5.out]
          go_wp2
          go_ret
          exact ⟨rfl, HX.out.keeps⟩
        · have e1 := full_end hm32 hc0 hc1
          have e2 := end_again HA.out hc0 hc1
          have e3 := closed_state HA.out hc0 hc1 2
          have HA2 := Lib.hid (HA.out.ended c)
          have E1 := Lib.hid e1
          have E2 := Lib.hid e2
          have E3 := Lib.hid e3
          clear e1 e2 e3 HA
          have HA := HA2
          clear HA2
          go_wp2_with (fail)
          refine (deskEnd_any _ _ _ _ _ HC.out.a (by omega)).mono ?_
          rintro e wT ⟨rfl, hO⟩
          rw [E1.out] at hO ⊢
          have HY : Hid (OneAt w g k wT _) := HC.out.step (by omega) hO
          clear hO HC
          go_wp2_with (fail)
          refine (deskEnd_any _ _ _ _ _ HY.out.a (by omega)).mono ?_
          rintro e wU ⟨rfl, hO⟩
          rw [E2.out] at hO ⊢
          have HX : Hid (OneAt w g k wU _) := HY.out.step (by omega) hO
          clear hO HY
          go_wp2_with (fail)
          refine (deskState_any _ _ _ _ _ HX.out.a (by omega)).mono ?_
          rintro e w' ⟨rfl, rfl⟩
          rw [E3.out]
          clear E1 E2 E3
          have en := HA.out.none
          go_wp2_with (fail)
          refine (deskOpen_any _ _ _ _ HX.out.a (by omega)).mono ?_
          rintro e wP ⟨rfl, hO⟩
          rw [en] at hO ⊢
          have HY : Hid (OneAt w g k wP _) := HX.out.step (by omega) hO
          clear hO HX en
          have ec := HA.out.close hc0 hc1
          have ec2 := closed_again HA.out hc0 hc1
          have ec3 := closed_state HA.out hc0 hc1 0
          have ec4 := closed_open HA.out hc0 hc1
          have ec5 := opened_state HA.out hc0 hc1
          go_wp2_with (fail)
          refine (deskClose_any _ _ _ _ _ HY.out.a (by omega)).mono ?_
          rintro e wQ ⟨rfl, hO⟩
          rw [ec] at hO ⊢
          have HX : Hid (OneAt w g k wQ _) := HY.out.step (by omega) hO
          clear hO HY ec
          have EC2 := Lib.hid ec2
          have EC3 := Lib.hid ec3
          have EC4 := Lib.hid ec4
          have EC5 := Lib.hid ec5
          clear ec2 ec3 ec4 ec5
          go_wp2_with (fail)
          refine (deskClose_any _ _ _ _ _ HX.out.a (by omega)).mono ?_
          rintro e wR ⟨rfl, hO⟩
          rw [EC2.out] at hO ⊢
          have HY : Hid (OneAt w g k wR _) := HX.out.step (by omega) hO
          clear hO HX
          go_wp2_with (fail)
          refine (deskState_any _ _ _ _ _ HY.out.a (by omega)).mono ?_
          rintro e w' ⟨rfl, rfl⟩
          rw [EC3.out]
          go_wp2_with (fail)
          refine (deskOpen_any _ _ _ _ HY.out.a (by omega)).mono ?_
          rintro e wS ⟨rfl, hO⟩
          rw [EC4.out] at hO ⊢
          have HX : Hid (OneAt w g k wS _) := HY.out.step (by omega) hO
          clear hO HY
          go_wp2_with (fail)
          refine (deskState_any _ _ _ _ _ HX.out.a (by omega)).mono ?_
          rintro e w' ⟨rfl, rfl⟩
          rw [EC5.out]
          go_wp2
          go_ret
          exact ⟨rfl, HX.out.keeps⟩
end Go.Proofs.Ytildgpecdapnhaa
