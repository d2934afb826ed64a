/-
  The walk over the statement DeskPlays.
-/
import Derived.Test.YtildgpecdapnhaaDeskAwake
import Derived.Test.YtildgpecdapnhaaDeskPure
set_option linter.unusedVariables false
set_option linter.unusedSimpArgs false
namespace Go.Proofs.Ytildgpecdapnhaa
open Go.RowKit

/-- A slice of whole numbers that came in. -/
def IsRow (k : IntKind) (w : World) (a : Option Addr) (len cap : Nat) (zs : List Int) : Prop :=
  (a = none ∧ len = 0 ∧ cap = 0 ∧ zs = []) ∨
  ∃ x, a = some x ∧ len ≤ cap ∧ cap ≤ maxLen ∧ zs.length = cap ∧ (∀ i, i < zs.length → w.cell? (x.add i) = some (.int k (zs.getD i 0))) ∧ ∀ n ∈ zs, (Lit.int k n).wf = true

theorem IsRow.at_ {w : World} {a : Option Addr} {len cap : Nat} {zs : List Int} (h : IsRow .i64 w a len cap zs) {k : Nat} (hk : k < len) :
    ∃ x, a = some x ∧ w.cell? (x.add k) = some (.int .i64 (zs.getD k 0)) ∧ I64 (zs.getD k 0) := by
  rcases h with ⟨_, rfl, _, _⟩ | ⟨x, rfl, h1, h2, h3, h4, h5⟩
  · omega
  · refine ⟨x, rfl, h4 k (by omega), ?_⟩
    have hm : zs.getD k 0 ∈ zs := by
      rw [List.getD_eq_getElem?_getD, List.getElem?_eq_getElem (by omega)]
      exact List.getElem_mem _
    have := h5 _ hm
    simpa [Lit.wf, IntKind.min, IntKind.signed, IntKind.bits, I64] using this

/-- Two rows of places, alike. -/
structure Both (w0 : World) (g1 g2 : Nat) (m : Int) (w : World) (st : List Int) : Prop where
  a : IsDesk w g1 40 m st
  b : IsDesk w g2 42 m st
  ok : DeskOk m st
  keeps : Keeps Nope w0 w

theorem Both.world {w0 : World} {g1 g2 : Nat} {m : Int} {w w' : World} {st : List Int} (h : Both w0 g1 g2 m w st) (hb : w'.heap = w.heap) (hk : Keeps Nope w0 w') : Both w0 g1 g2 m w' st :=
  ⟨h.a.kept (by rw [hb]), h.b.kept (by rw [hb]), h.ok, hk⟩
theorem Both.step {w0 : World} {g1 g2 : Nat} {m : Int} {w w1 w2 : World} {st st' : List Int} (h : Both w0 g1 g2 m w st) (h1 : w0.heap.size ≤ g1) (h2 : w0.heap.size ≤ g2) (hne : g1 ≠ g2)
    (ha : turned g1 40 m st' w w1) (hb : turned g2 42 m st' w1 w2) (ho : DeskOk m st') : Both w0 g1 g2 m w2 st' :=
  ⟨ha.1.kept (hb.2.block _ ha.1.lt hne), hb.1, ho, (h.keeps.then ha.2 (fun i hi e => by have : i = g1 := e; omega)).then hb.2 (fun i hi e => by have : i = g2 := e; omega)⟩
theorem Both.b1 {w0 : World} {g1 g2 : Nat} {m : Int} {w w1 : World} {st st' : List Int} (h : Both w0 g1 g2 m w st) (hne : g1 ≠ g2) (ha : turned g1 40 m st' w w1) : IsDesk w1 g2 42 m st :=
  h.b.kept (ha.2.block _ h.b.lt (fun e => hne e.symm))
theorem Both.more {w0 : World} {g1 g2 : Nat} {m : Int} {w w1 : World} {st : List Int} (h : Both w0 g1 g2 m w st) (hk : Keeps Nope w w1) : Both w0 g1 g2 m w1 st :=
  ⟨h.a.kept (hk.block _ h.a.lt (fun f => f)), h.b.kept (hk.block _ h.b.lt (fun f => f)), h.ok, h.keeps.trans hk⟩


theorem tail_ok {w0 : World} {g1 g2 : Nat} {m : Int} {w : World} {st : List Int} (h : Both w0 g1 g2 m w st) : 0 ≤ m ∧ m ≤ 32 ∧ many (st.take m.toNat) = many st := ⟨h.ok.lo, h.ok.hi, h.ok.many⟩

theorem refMany_ok (g : Nat) (m : Int) (st : List Int) (w : World) (hd : IsDesk w g 42 m st) (h : DeskOk m st) :
    Calls Try.prog 20 #[.pointer (some ⟨g, 0, none⟩)] w fun e w' => e = .returned (.int .i64 (many st)) ∧ w = w' := by
  rw [← h.many]
  exact refMany_any g m st w hd h.lo h.hi

set_option maxRecDepth 100000 in
set_option maxHeartbeats 4000000 in
theorem deskPlays_walk (a0 : Int) (a1 : Bool) (a2 : Option Addr) (len2 cap2 : Nat) (z2 : List Int) (w : World) (_h0 : (Lit.int .i64 a0).wf = true) (hrow : IsRow .i64 w a2 len2 cap2 z2) :
    Calls Try.prog 3 #[.int .i64 a0, .bool a1, .slice a2 len2 cap2] w fun e w' => e = .returned (.bool true) ∧ Keeps Nope w w' := by
  by_cases hlen : len2 ≤ 200
  · cases a1
    all_goals
      go_enter Try.func3, Try.ntmps3
      go_wp2_with (go_at_call 6; (with_reducible refine (deskAwake_any _).mono ?_); rintro e wA ⟨rfl, hA⟩)
      go_wp2_with (go_at_call 7; (with_reducible refine (within_any _ _ _ (by omega) (by omega)).mono ?_); rintro e w' ⟨rfl, rfl⟩)
      refine (deskNew_any _ _).mono ?_
      rintro e w1 ⟨rfl, hd1, hk1⟩
      go_wp2_with (fail)
      refine (refDesks_any _ _).mono ?_
      rintro e w2 ⟨rfl, hd2, hk2⟩
      go_wp2_with (fail)
      have hB : Both w wA.heap.size w1.heap.size _ w2 (List.replicate 32 0) := ⟨hd1.kept (hk2.block _ hd1.lt (fun f => f)), hd2, DeskOk.new _, (hA.trans hk1).trans hk2⟩
      have e1 : w.heap.size ≤ wA.heap.size := hA.size
      have e2 : wA.heap.size < w1.heap.size := hd1.lt
      generalize wA.heap.size = g1 at *
      generalize w1.heap.size = g2 at *
      generalize clampDesk _ = m at *
      clear hd1 hd2 hk1 hk2 hA
      go_wp2_with (fail)
      go_loopw [9] (fun i wr => ∃ k st, k ≤ len2 ∧ Hid (Both w g1 g2 m wr st) ∧ i = .int .i64 ((k : Nat) : Int)) (fun i _ => (len2 - (intOf i)).toNat)
      case atStart => exact ⟨0, _, by omega, hB, rfl⟩
      case round =>
        obtain ⟨k, st, hk, HB, rfl⟩ := hrel
        clear hB
        by_cases hlt : k < len2
        · obtain ⟨x, rfl, hc, hi⟩ := hrow.at_ hlt
          have hc : wr.cell? (x.add k) = some (.int .i64 (z2.getD k 0)) := (HB.out.keeps.cell (p := x.add k) (World.block_lt_of_cell? w _ hc) (fun f => f)).trans hc
          generalize z2.getD k 0 = z at *
          clear hrow
          have hcr := dig_range z 4 36 (by omega)
          go_wp2_with (fail)
          refine (digit_any _ _ _ _ hi (by omega) (by omega) (by omega)).mono ?_
          rintro e w' ⟨rfl, rfl⟩
          generalize dig z 4 36 = c0 at *
          go_wp2_with (fail)
          refine (within_any _ _ _ (by omega) (by omega)).mono ?_
          rintro e w' ⟨rfl, rfl⟩
          have hv := Int.emod_nonneg z (by omega : (4 : Int) ≠ 0)
          have hv4 := Int.emod_lt_of_pos z (by omega : (0 : Int) < 4)
          generalize z % 4 = v at *
          rcases (by omega : v = 0 ∨ v = 1 ∨ v = 2 ∨ v = 3) with rfl | rfl | rfl | rfl
          · go_wp2_with (fail)
            refine (deskOpen_any _ _ _ _ HB.out.a HB.out.ok.hi).mono ?_
            rintro e wO ⟨rfl, hO⟩
            go_wp2_with (fail)
            refine (refOpen_any _ _ _ _ (HB.out.b1 (by omega) hO) HB.out.ok.hi).mono ?_
            rintro e wP ⟨rfl, hP⟩
            have HC : Hid (Both w g1 g2 m wP _) := HB.out.step (by omega) (by omega) (by omega) hO hP HB.out.ok.open
            clear hO hP HB
            go_wp2_with (fail)
            refine (deskState_any _ _ _ _ _ HC.out.a HC.out.ok.hi).mono ?_
            rintro e w' ⟨rfl, rfl⟩
            go_wp2_with (fail)
            refine (refState_any _ _ _ _ _ HC.out.b HC.out.ok.hi).mono ?_
            rintro e w' ⟨rfl, rfl⟩
            go_wp2_with (fail)
            refine (deskMany_any _ _ _ _ HC.out.a).mono ?_
            rintro e wM ⟨rfl, hM⟩
            have HD : Hid (Both w g1 g2 m wM _) := HC.out.more hM
            clear HC
            go_wp2_with (fail)
            refine (refMany_ok _ _ _ _ HD.out.b HD.out.ok).mono ?_
            rintro e w' ⟨rfl, rfl⟩
            go_wp2
            go_roundw
            case rel => exact ⟨k + 1, _, by omega, HD, by go_num⟩
            case measure => simp [intOf]; omega
          · go_wp2_with (fail)
            refine (deskOpen_any _ _ _ _ HB.out.a HB.out.ok.hi).mono ?_
            rintro e wO ⟨rfl, hO⟩
            go_wp2_with (fail)
            refine (refOpen_any _ _ _ _ (HB.out.b1 (by omega) hO) HB.out.ok.hi).mono ?_
            rintro e wP ⟨rfl, hP⟩
            have HC : Hid (Both w g1 g2 m wP _) := HB.out.step (by omega) (by omega) (by omega) hO hP HB.out.ok.open
            clear hO hP HB
            go_wp2_with (fail)
            refine (deskState_any _ _ _ _ _ HC.out.a HC.out.ok.hi).mono ?_
            rintro e w' ⟨rfl, rfl⟩
            go_wp2_with (fail)
            refine (refState_any _ _ _ _ _ HC.out.b HC.out.ok.hi).mono ?_
            rintro e w' ⟨rfl, rfl⟩
            go_wp2_with (fail)
            refine (deskMany_any _ _ _ _ HC.out.a).mono ?_
            rintro e wM ⟨rfl, hM⟩
            have HD : Hid (Both w g1 g2 m wM _) := HC.out.more hM
            clear HC
            go_wp2_with (fail)
            refine (refMany_ok _ _ _ _ HD.out.b HD.out.ok).mono ?_
            rintro e w' ⟨rfl, rfl⟩
            go_wp2
            go_roundw
            case rel => exact ⟨k + 1, _, by omega, HD, by go_num⟩
            case measure => simp [intOf]; omega
          · go_wp2_with (fail)
            refine (deskClose_any _ _ _ _ _ HB.out.a HB.out.ok.hi).mono ?_
            rintro e wO ⟨rfl, hO⟩
            go_wp2_with (fail)
            refine (refClose_any _ _ _ _ _ (HB.out.b1 (by omega) hO) HB.out.ok.hi HB.out.ok.stands).mono ?_
            rintro e wP ⟨rfl, hP⟩
            have HC : Hid (Both w g1 g2 m wP _) := HB.out.step (by omega) (by omega) (by omega) hO hP (HB.out.ok.turn _ (by simp) (.inl rfl))
            clear hO hP HB
            go_wp2_with (fail)
            refine (deskState_any _ _ _ _ _ HC.out.a HC.out.ok.hi).mono ?_
            rintro e w' ⟨rfl, rfl⟩
            go_wp2_with (fail)
            refine (refState_any _ _ _ _ _ HC.out.b HC.out.ok.hi).mono ?_
            rintro e w' ⟨rfl, rfl⟩
            go_wp2_with (fail)
            refine (deskMany_any _ _ _ _ HC.out.a).mono ?_
            rintro e wM ⟨rfl, hM⟩
            have HD : Hid (Both w g1 g2 m wM _) := HC.out.more hM
            clear HC
            go_wp2_with (fail)
            refine (refMany_ok _ _ _ _ HD.out.b HD.out.ok).mono ?_
            rintro e w' ⟨rfl, rfl⟩
            go_wp2
            go_roundw
            case rel => exact ⟨k + 1, _, by omega, HD, by go_num⟩
            case measure => simp [intOf]; omega
          · go_wp2_with (fail)
            refine (deskEnd_any _ _ _ _ _ HB.out.a HB.out.ok.hi).mono ?_
            rintro e wO ⟨rfl, hO⟩
            go_wp2_with (fail)
            refine (refEnd_any _ _ _ _ _ (HB.out.b1 (by omega) hO) HB.out.ok.hi).mono ?_
            rintro e wP ⟨rfl, hP⟩
            have HC : Hid (Both w g1 g2 m wP _) := HB.out.step (by omega) (by omega) (by omega) hO hP (HB.out.ok.turn _ (by simp) (.inr (.inr rfl)))
            clear hO hP HB
            go_wp2_with (fail)
            refine (deskState_any _ _ _ _ _ HC.out.a HC.out.ok.hi).mono ?_
            rintro e w' ⟨rfl, rfl⟩
            go_wp2_with (fail)
            refine (refState_any _ _ _ _ _ HC.out.b HC.out.ok.hi).mono ?_
            rintro e w' ⟨rfl, rfl⟩
            go_wp2_with (fail)
            refine (deskMany_any _ _ _ _ HC.out.a).mono ?_
            rintro e wM ⟨rfl, hM⟩
            have HD : Hid (Both w g1 g2 m wM _) := HC.out.more hM
            clear HC
            go_wp2_with (fail)
            refine (refMany_ok _ _ _ _ HD.out.b HD.out.ok).mono ?_
            rintro e w' ⟨rfl, rfl⟩
            go_wp2
            go_roundw
            case rel => exact ⟨k + 1, _, by omega, HD, by go_num⟩
            case measure => simp [intOf]; omega
        · go_wp2_with (fail)
          go_loopw [15] (fun i wq => ∃ c : Int, -1 ≤ c ∧ c ≤ 34 ∧ wq = wr ∧ i = .int .i64 c) (fun i _ => (34 - (intOf i)).toNat)
          case atStart => exact ⟨-1, by omega, by omega, rfl, rfl⟩
          case round =>
            obtain ⟨c, hc1, hc2, rfl, rfl⟩ := hrel
            by_cases hc3 : c < 34
            · go_wp2_with (fail)
              refine (deskState_any _ _ _ _ _ HB.out.a HB.out.ok.hi).mono ?_
              rintro e w' ⟨rfl, rfl⟩
              go_wp2_with (fail)
              refine (refState_any _ _ _ _ _ HB.out.b HB.out.ok.hi).mono ?_
              rintro e w' ⟨rfl, rfl⟩
              go_wp2
              go_roundw
              case rel => exact ⟨c + 1, by omega, by omega, trivial, by go_num⟩
              case measure => simp [intOf]; omega
            · go_wp2
              go_ret
              exact ⟨rfl, HB.out.keeps⟩
  · have hlt : 200 < len2 := by omega
    go_enter Try.func3, Try.ntmps3
    go_wp2_with (go_at_call 6; (with_reducible refine (deskAwake_any _).mono ?_); rintro e wA ⟨rfl, hA⟩)
    go_ret
    exact ⟨rfl, hA⟩
end Go.Proofs.Ytildgpecdapnhaa
