/-
  The walks over package desk, and over the document's desk: what each call gives back and how it leaves the row of places.
-/
import Derived.Test.YtildgpecdapnhaaProg
import Derived.Test.YtildgpecdapnhaaBase
set_option linter.unusedVariables false
set_option linter.unusedSimpArgs false
namespace Go.Proofs.Ytildgpecdapnhaa
open Go.RowKit

/-- A row of places: how many may be used, and how each stands. -/
def IsDesk (w : World) (g : Nat) (T : TypeId) (most : Int) (st : List Int) : Prop :=
  st.length = 32 ∧ w.heap[g]? = some (.cells ((Value.int .i64 most :: st.map (Value.int .i64)).toArray) T (0, 0))

theorem IsDesk.most {w : World} {g : Nat} {T : TypeId} {m : Int} {st : List Int} (h : IsDesk w g T m st) : w.cell? ⟨g, 0, none⟩ = some (.int .i64 m) := by
  simp [World.cell?, h.2]
theorem IsDesk.at_ {w : World} {g : Nat} {T : TypeId} {m : Int} {st : List Int} (h : IsDesk w g T m st) (j : Nat) (hj : j < 32) : w.cell? ⟨g, 1 + j, none⟩ = some (.int .i64 (st.getD j 0)) := by
  have := h.1
  simp [World.cell?, h.2, Nat.add_comm 1 j]
  simp [List.getElem?_eq_getElem, this, hj]
theorem IsDesk.free {w : World} {g : Nat} {T : TypeId} {m : Int} {st : List Int} (h : IsDesk w g T m st) (j : Nat) : w.frozen? ⟨g, j, none⟩ = false := by
  simp [World.frozen?, h.2]
theorem IsDesk.set {w : World} {g : Nat} {T : TypeId} {m : Int} {st : List Int} (h : IsDesk w g T m st) (j : Nat) (x : Int) : IsDesk (w.setCell ⟨g, 1 + j, none⟩ (.int .i64 x)) g T m (st.set j x) := by
  refine ⟨by simp [h.1], ?_⟩
  simp only [World.setCell, Array.getElem?_modify, h.2]
  simp [Nat.add_comm 1 j, List.map_set]
theorem IsDesk.kept {w w' : World} {g : Nat} {T : TypeId} {m : Int} {st : List Int} (h : IsDesk w g T m st) (hb : w'.heap[g]? = w.heap[g]?) : IsDesk w' g T m st := ⟨h.1, hb.trans h.2⟩
theorem IsDesk.lt {w : World} {g : Nat} {T : TypeId} {m : Int} {st : List Int} (h : IsDesk w g T m st) : g < w.heap.size := heap_lt h.2
theorem IsDesk.range {w : World} {g : Nat} {T : TypeId} {m : Int} {st : List Int} (h : IsDesk w g T m st) : w.rangeAt g 1 (st.map (Value.int .i64)) := by
  intro j v hv
  have hj : j < 32 := by
    rw [← h.1]
    have := (List.getElem?_eq_some_iff.1 hv).1
    simpa using this
  rw [h.at_ j hj]
  simpa [List.getElem?_eq_getElem, h.1, hj] using hv

/-- What becomes of a row of places, and of nothing else that was there. -/
def turned (g : Nat) (T : TypeId) (m : Int) (st : List Int) (w w' : World) : Prop := IsDesk w' g T m st ∧ Keeps (Only g) w w'

def clampDesk (m : Int) : Int := min (max m 0) 32
def deskNew (m : Int) (T : TypeId) (w w' : World) : Prop := IsDesk w' w.heap.size T (clampDesk m) (List.replicate 32 0) ∧ Keeps Nope w w'
theorem new_world (m c : Int) (w : World) (T : TypeId) (h : c = clampDesk m) : deskNew m T w (w.alloc (Obj.cells ((Value.int .i64 c :: (List.replicate 32 0).map (Value.int .i64)).toArray) T)) := by
  subst h
  exact ⟨⟨by simp, heap_alloc_new w _⟩, (Keeps.refl _ _).alloc _⟩

set_option maxHeartbeats 400000 in
theorem deskNew_any (m : Int) (w : World) :
    Calls Try.prog 8 #[.int .i64 m] w fun e w' => e = .returned (.pointer (some ⟨w.heap.size, 0, none⟩)) ∧ deskNew m 40 w w' := by
  go_enter Try.func8, Try.ntmps8
  go_wp2
  all_goals
    go_ret
    exact ⟨rfl, new_world m _ w _ (by unfold clampDesk; omega)⟩

set_option maxHeartbeats 400000 in
theorem refDesks_any (m : Int) (w : World) :
    Calls Try.prog 9 #[.int .i64 m] w fun e w' => e = .returned (.pointer (some ⟨w.heap.size, 0, none⟩)) ∧ deskNew m 42 w w' := by
  go_enter Try.func9, Try.ntmps9
  go_wp2
  all_goals
    go_ret
    exact ⟨rfl, new_world m _ w _ (by unfold clampDesk; omega)⟩

/-- The lowest free place below k, from place i on. -/
def lowest (st : List Int) (m : Int) : Nat → Nat → Option Nat
  | _, 0 => none
  | i, k + 1 => if (i : Int) < m then (if st.getD i 0 = 0 then some i else lowest st m (i + 1) k) else none
def openTo (st : List Int) : Option Nat → Int × Bool × List Int
  | some c => (c, true, st.set c 1)
  | none => (0, false, st)
def deskOpen (m : Int) (st : List Int) : Int × Bool × List Int := openTo st (lowest st m 0 33)
theorem lowest_no {st : List Int} {m : Int} {k : Nat} (h : m ≤ k) : ∀ j, lowest st m k j = none
  | 0 => rfl
  | j + 1 => by simp only [lowest]; rw [if_neg (by omega)]
theorem lowest_hit {st : List Int} {m : Int} {k j : Nat} (h : (k : Int) < m) (hz : st.getD k 0 = 0) (hj : 0 < j) : lowest st m k j = some k := by
  obtain ⟨i, rfl⟩ : ∃ i, j = i + 1 := ⟨j - 1, by omega⟩
  simp only [lowest]; rw [if_pos h, if_pos hz]
theorem lowest_next {st : List Int} {m : Int} {k j : Nat} (h : (k : Int) < m) (hz : ¬ st.getD k 0 = 0) (hj : 0 < j) : lowest st m k j = lowest st m (k + 1) (j - 1) := by
  obtain ⟨i, rfl⟩ : ∃ i, j = i + 1 := ⟨j - 1, by omega⟩
  simp only [lowest]; rw [if_pos h, if_neg hz]; rfl
/-- What Open gives back, and how it leaves the places. -/
def opened (g : Nat) (T : TypeId) (m : Int) (st : List Int) (w : World) (e : Ending) (w' : World) : Prop :=
  e = .returned (.tuple #[.int .i64 (deskOpen m st).1, .bool (deskOpen m st).2.1]) ∧ turned g T m (deskOpen m st).2.2 w w'
theorem opened_hit {g : Nat} {T : TypeId} {m : Int} {st : List Int} {w : World} (hd : IsDesk w g T m st) {k : Nat} (hk : k ≤ 32) (HL : lowest st m 0 33 = lowest st m k (33 - k)) (h : (k : Int) < m) (hz : st.getD k 0 = 0) :
    opened g T m st w (.returned (.tuple #[.int .i64 k, .bool true])) (w.setCell ⟨g, 1 + k, none⟩ (.int .i64 1)) := by
  have e : deskOpen m st = ((k : Int), true, st.set k 1) := by unfold deskOpen; rw [HL, lowest_hit h hz (by omega)]; rfl
  unfold opened
  rw [e]
  exact ⟨rfl, hd.set k 1, (Keeps.refl (Only g) _).setAt _ _⟩
theorem opened_none {g : Nat} {T : TypeId} {m : Int} {st : List Int} {w : World} (hd : IsDesk w g T m st) {k : Nat} (HL : lowest st m 0 33 = lowest st m k (33 - k)) (h : ¬ (k : Int) < m) :
    opened g T m st w (.returned (.tuple #[.int .i64 0, .bool false])) w := by
  have e : deskOpen m st = (0, false, st) := by unfold deskOpen; rw [HL, lowest_no (by omega)]; rfl
  unfold opened
  rw [e]
  exact ⟨rfl, hd, Keeps.refl _ _⟩

set_option maxHeartbeats 400000 in
theorem deskOpen_any (g : Nat) (m : Int) (st : List Int) (w : World) (hd : IsDesk w g 40 m st) (hm : m ≤ 32) :
    Calls Try.prog 11 #[.pointer (some ⟨g, 0, none⟩)] w (opened g 40 m st w) := by
  have hm0 := hd.most
  go_enter Try.func11, Try.ntmps11
  go_wp2
  go_loop [9] (fun i => ∃ k : Nat, k ≤ 32 ∧ Hid (lowest st m 0 33 = lowest st m k (33 - k)) ∧ i = .int .i64 k) (fun i => (m - (intOf i)).toNat)
  case atStart => exact ⟨0, by omega, rfl, rfl⟩
  case round =>
    obtain ⟨k, hk, HL, rfl⟩ := hrel
    by_cases hlt : (k : Int) < m
    · have hc := hd.at_ k (by omega)
      have hf := hd.free (1 + k)
      by_cases hz : st.getD k 0 = 0
      · have R := opened_hit hd hk HL.out hlt hz
        rw [hz] at hc
        clear hz
        go_wp2
        go_ret2
        exact R
      · have hn : Hid (lowest st m 0 33 = lowest st m (k + 1) (33 - (k + 1))) := HL.out.trans (lowest_next hlt hz (by omega))
        have hz' : (st.getD k 0 == 0) = false := by simpa using hz
        generalize st.getD k 0 = x at *
        go_wp2
        go_round
        case rel => exact ⟨k + 1, by omega, hn, by go_num⟩
        case measure => simp [intOf]; omega
    · have R := opened_none hd HL.out hlt
      go_wp2
      go_ret2
      exact R

set_option maxHeartbeats 400000 in
theorem refOpen_any (g : Nat) (m : Int) (st : List Int) (w : World) (hd : IsDesk w g 42 m st) (hm : m ≤ 32) :
    Calls Try.prog 12 #[.pointer (some ⟨g, 0, none⟩)] w (opened g 42 m st w) := by
  have hm0 := hd.most
  go_enter Try.func12, Try.ntmps12
  go_wp2
  go_loop [4] (fun i => ∃ k : Nat, k ≤ 32 ∧ Hid (lowest st m 0 33 = lowest st m k (33 - k)) ∧ i = .int .i64 k) (fun i => (m - (intOf i)).toNat)
  case atStart => exact ⟨0, by omega, rfl, rfl⟩
  case round =>
    obtain ⟨k, hk, HL, rfl⟩ := hrel
    by_cases hlt : (k : Int) < m
    · have hc := hd.at_ k (by omega)
      have hf := hd.free (1 + k)
      by_cases hz : st.getD k 0 = 0
      · have R := opened_hit hd hk HL.out hlt hz
        rw [hz] at hc
        clear hz
        go_wp2
        go_ret2
        exact R
      · have hn : Hid (lowest st m 0 33 = lowest st m (k + 1) (33 - (k + 1))) := HL.out.trans (lowest_next hlt hz (by omega))
        have hz' : (st.getD k 0 == 0) = false := by simpa using hz
        generalize st.getD k 0 = x at *
        go_wp2
        go_round
        case rel => exact ⟨k + 1, by omega, hn, by go_num⟩
        case measure => simp [intOf]; omega
    · have R := opened_none hd HL.out hlt
      go_wp2
      go_ret2
      exact R

/-- How a place stands; there is none: free. -/
def deskState (m : Int) (st : List Int) (c : Int) : Int := if 0 ≤ c ∧ c < m then st.getD c.toNat 0 else 0

set_option maxHeartbeats 400000 in
theorem deskState_any (g : Nat) (m : Int) (st : List Int) (c : Int) (w : World) (hd : IsDesk w g 40 m st) (hm : m ≤ 32) :
    Calls Try.prog 17 #[.pointer (some ⟨g, 0, none⟩), .int .i64 c] w fun e w' => e = .returned (.int .i64 (deskState m st c)) ∧ w = w' := by
  have hm0 := hd.most
  by_cases h0 : c < 0
  · have R : Hid (deskState m st c = 0) := by unfold deskState; rw [if_neg (by omega)]; rfl
    go_enter Try.func17, Try.ntmps17
    go_wp2
    go_ret
    exact ⟨ret_int R.out.symm, rfl⟩
  · by_cases h1 : m ≤ c
    · have R : Hid (deskState m st c = 0) := by unfold deskState; rw [if_neg (by omega)]; rfl
      go_enter Try.func17, Try.ntmps17
      go_wp2
      go_ret
      exact ⟨ret_int R.out.symm, rfl⟩
    · have R : Hid (deskState m st c = st.getD c.toNat 0) := by unfold deskState; rw [if_pos (by omega)]; rfl
      have hc := hd.at_ c.toNat (by omega)
      generalize st.getD c.toNat 0 = x at *
      go_enter Try.func17, Try.ntmps17
      go_wp2
      go_ret
      exact ⟨ret_int R.out.symm, rfl⟩

set_option maxHeartbeats 400000 in
theorem refState_any (g : Nat) (m : Int) (st : List Int) (c : Int) (w : World) (hd : IsDesk w g 42 m st) (hm : m ≤ 32) :
    Calls Try.prog 18 #[.pointer (some ⟨g, 0, none⟩), .int .i64 c] w fun e w' => e = .returned (.int .i64 (deskState m st c)) ∧ w = w' := by
  have hm0 := hd.most
  by_cases h0 : c < 0
  · have R : Hid (deskState m st c = 0) := by unfold deskState; rw [if_neg (by omega)]; rfl
    go_enter Try.func18, Try.ntmps18
    go_wp2
    go_ret
    exact ⟨ret_int R.out.symm, rfl⟩
  · by_cases h1 : m ≤ c
    · have R : Hid (deskState m st c = 0) := by unfold deskState; rw [if_neg (by omega)]; rfl
      go_enter Try.func18, Try.ntmps18
      go_wp2
      go_ret
      exact ⟨ret_int R.out.symm, rfl⟩
    · have R : Hid (deskState m st c = st.getD c.toNat 0) := by unfold deskState; rw [if_pos (by omega)]; rfl
      have hc := hd.at_ c.toNat (by omega)
      generalize st.getD c.toNat 0 = x at *
      go_enter Try.func18, Try.ntmps18
      go_wp2
      go_ret
      exact ⟨ret_int R.out.symm, rfl⟩

/-- A place that stands as one of some (none of them: free) stands otherwise. -/
def deskTurn (m : Int) (st : List Int) (c to : Int) (fs : List Int) : Bool × List Int :=
  if deskState m st c ∈ fs then (true, st.set c.toNat to) else (false, st)
def turns (g : Nat) (T : TypeId) (m : Int) (st : List Int) (c to : Int) (fs : List Int) (w : World) (e : Ending) (w' : World) : Prop :=
  e = .returned (.bool (deskTurn m st c to fs).1) ∧ turned g T m (deskTurn m st c to fs).2 w w'
theorem turns_yes {g : Nat} {T : TypeId} {m : Int} {st : List Int} {w : World} (hd : IsDesk w g T m st) {c to : Int} {fs : List Int} (h : deskState m st c ∈ fs) :
    turns g T m st c to fs w (.returned (.bool true)) (w.setCell ⟨g, 1 + c.toNat, none⟩ (.int .i64 to)) := by
  unfold turns deskTurn
  rw [if_pos h]
  exact ⟨rfl, hd.set _ _, (Keeps.refl (Only g) _).setAt _ _⟩
theorem turns_no {g : Nat} {T : TypeId} {m : Int} {st : List Int} {w : World} (hd : IsDesk w g T m st) {c to : Int} {fs : List Int} (h : ¬ deskState m st c ∈ fs) :
    turns g T m st c to fs w (.returned (.bool false)) w := by
  unfold turns deskTurn
  rw [if_neg h]
  exact ⟨rfl, hd, Keeps.refl _ _⟩
theorem deskState_in {m : Int} {st : List Int} {c : Int} (h : ¬ deskState m st c = 0) : 0 ≤ c ∧ c < m := by
  unfold deskState at h
  split at h
  · assumption
  · exact absurd rfl h

set_option maxHeartbeats 400000 in
theorem deskTurn_any (g : Nat) (m : Int) (st : List Int) (c to : Int) (b n cap : Nat) (fs : List Int) (w : World) (hd : IsDesk w g 40 m st) (hm : m ≤ 32)
    (hn : fs.length = n) (hn9 : n ≤ 9) (h0 : ∀ f ∈ fs, f ≠ 0) (hr : ∀ j, j < n → w.cell? ⟨b, j, none⟩ = some (.int .i64 (fs.getD j 0))) :
    Calls Try.prog 21 #[.pointer (some ⟨g, 0, none⟩), .int .i64 c, .int .i64 to, .slice (some ⟨b, 0, none⟩) n cap] w (turns g 40 m st c to fs w) := by
  have HD := Lib.hid hn
  clear hn
  go_enter Try.func21, Try.ntmps21
  go_wp2
  go_loop [13] (fun i => ∃ k : Nat, k ≤ n ∧ Hid (∀ j, j < k → fs.getD j 0 ≠ deskState m st c) ∧ i = .int .i64 k) (fun i => (n - (intOf i)).toNat)
  case atStart => exact ⟨0, by omega, fun j h => absurd h (by omega), rfl⟩
  case round =>
    obtain ⟨k, hk, HL, rfl⟩ := hrel
    by_cases hlt : k < n
    · have hc := hr k hlt
      have hin : fs.getD k 0 ∈ fs := by rw [List.getD_eq_getElem?_getD, List.getElem?_eq_getElem (by rw [HD.out]; exact hlt)]; exact List.getElem_mem _
      have hne := h0 _ hin
      by_cases he : deskState m st c = fs.getD k 0
      · have hcm := deskState_in (by rw [he]; exact hne)
        have hcell := hd.at_ c.toNat (by omega)
        have hf := hd.free (1 + c.toNat)
        have R := turns_yes hd (to := to) (show deskState m st c ∈ fs from he ▸ hin)
        have he' : (deskState m st c == fs.getD k 0) = true := by simpa using he
        clear hr h0 hin hne he HL
        generalize fs.getD k 0 = x at *
        go_wp2_with ((with_reducible refine (deskState_any g m st c _ hd hm).mono ?_); rintro e w' ⟨rfl, rfl⟩)
        go_ret
        exact R
      · have he' : (deskState m st c == fs.getD k 0) = false := by simpa using he
        have hn1 : Hid (∀ j, j < k + 1 → fs.getD j 0 ≠ deskState m st c) := fun j hj => by
          rcases Nat.lt_succ_iff_lt_or_eq.1 hj with h | rfl
          · exact HL.out j h
          · exact fun h => he h.symm
        clear hr h0 hin hne he HL
        generalize fs.getD k 0 = x at *
        go_wp2_with ((with_reducible refine (deskState_any g m st c _ hd hm).mono ?_); rintro e w' ⟨rfl, rfl⟩)
        go_round
        case rel => exact ⟨k + 1, by omega, hn1, by go_num⟩
        case measure => simp [intOf]; omega
    · have R := turns_no hd (c := c) (to := to) (fs := fs) (fun hm => by
        obtain ⟨j, hj, e⟩ := List.mem_iff_getElem.1 hm
        have := HL.out j (by rw [HD.out] at hj; omega)
        rw [List.getD_eq_getElem?_getD, List.getElem?_eq_getElem hj] at this
        exact this e)
      clear hr h0
      go_wp2
      go_ret
      exact R

set_option maxHeartbeats 400000 in
theorem deskEnd_any (g : Nat) (m : Int) (st : List Int) (c : Int) (w : World) (hd : IsDesk w g 40 m st) (hm : m ≤ 32) :
    Calls Try.prog 15 #[.pointer (some ⟨g, 0, none⟩), .int .i64 c] w (turns g 40 m st c 2 [1] w) := by
  have hd' : IsDesk (w.alloc (Obj.cells #[.int .i64 1] 3)) g 40 m st := hd.kept (Below.heap_alloc _ _ _ hd.lt)
  go_enter Try.func15, Try.ntmps15
  go_wp2_with (go_at_call 21; (with_reducible refine (deskTurn_any g m st c _ _ 1 _ [1] _ hd' hm rfl (by omega) ?h0 ?hr).mono ?_))
  case h0 => simp
  case hr =>
    intro j hj
    obtain rfl : j = 0 := by omega
    simp
  rintro e w' ⟨rfl, hh⟩
  go_wp2
  go_ret
  exact ⟨rfl, hh.1, ((Keeps.refl (Only g) w).alloc _).trans hh.2⟩
end Go.Proofs.Ytildgpecdapnhaa
