/-
  The walks over Many, Close and End of both desks.
-/
import Derived.Test.YtildgpecdapnhaaDesk
set_option linter.unusedVariables false
set_option linter.unusedSimpArgs false
namespace Go.Proofs.Ytildgpecdapnhaa
open Go.RowKit


def many (st : List Int) : Nat := (st.filter (fun x => x ≠ 0)).length
theorem many_take {st : List Int} {k : Nat} (h : k < st.length) : many (st.take (k + 1)) = many (st.take k) + if st.getD k 0 ≠ 0 then 1 else 0 := by
  unfold many
  rw [List.take_succ_eq_append_getElem h, List.filter_append, List.length_append]
  have e : st.getD k 0 = st[k] := by rw [List.getD_eq_getElem?_getD, List.getElem?_eq_getElem h]; rfl
  rw [e]
  by_cases hz : st[k] = 0 <;> simp [hz]
theorem many_le (st : List Int) (k : Nat) : many (st.take k) ≤ k := by
  have h1 := List.length_filter_le (fun x : Int => decide (x ≠ 0)) (st.take k)
  have h2 := List.length_take_le k st
  unfold many
  omega

set_option maxHeartbeats 400000 in
theorem deskMany_any (g : Nat) (m : Int) (st : List Int) (w : World) (hd : IsDesk w g 40 m st) :
    Calls Try.prog 19 #[.pointer (some ⟨g, 0, none⟩)] w fun e w' => e = .returned (.int .i64 (many st)) ∧ Keeps Nope w w' := by
  have hi : (Try.prog.info? 38).map (·.size) = some (st.map (Value.int .i64)).length := by rw [List.length_map, hd.1]; kernel_rfl
  have HR := hd.range
  have hl := Lib.hid hd.1
  go_enter Try.func19, Try.ntmps19
  go_wp2_with (first | (refine wpList_load_mid rfl 38 _ rfl g 1 rfl (st.map (Value.int .i64)) _ HR Try.underlying38 rfl hi ?_) | (refine wpList_store_new rfl 38 _ _ rfl rfl _ (st.map (Value.int .i64)).toArray rfl (by simpa using hi) (by simp [hl.out]) (by simp [Value.oneCell']) ?_) | (refine wpList_load_row rfl 38 _ rfl _ rfl _ _ _ _ (heap_alloc_new _ _) Try.underlying38 rfl (by simpa using hi) ?_))
  go_loop [3, 12] (fun n i => ∃ k : Nat, k ≤ 32 ∧ n = .int .i64 (many (st.take k)) ∧ i = .int .i64 k) (fun _ i => (32 - (intOf i)).toNat)
  case atStart => exact ⟨0, by omega, rfl, rfl⟩
  case round =>
    obtain ⟨k, hk, rfl, rfl⟩ := hrel
    by_cases hlt : k < 32
    · have HT := Lib.hid (many_take (st := st) (k := k) (by rw [hl.out]; exact hlt))
      have hle := many_le st k
      have IA := index_agg (P := Try.prog) (t := 38) (e := 3) (n := 32) (st.map (Value.int .i64)) k (.int .i64 (st.getD k 0)) Try.underlying38 hlt rfl rfl (fun _ => rfl) (by
        rw [List.getElem?_map, List.getD_eq_getElem?_getD, List.getElem?_eq_getElem (by rw [hl.out]; exact hlt)]; rfl)
      by_cases hz : st.getD k 0 = 0
      · have HT' : Hid (many (st.take (k + 1)) = many (st.take k)) := by have := HT.out; rw [if_neg (by simpa using hz)] at this; exact this
        have hz' : (st.getD k 0 != 0) = false := by simpa using hz
        clear hz HT
        generalize st.getD k 0 = x at *
        go_wp2
        go_round
        case rel => exact ⟨k + 1, by omega, by rw [HT'.out], by go_num⟩
        case measure => simp [intOf]; omega
      · have HT' : Hid (many (st.take (k + 1)) = many (st.take k) + 1) := by have := HT.out; rw [if_pos (by simpa using hz)] at this; exact this
        have hz' : (st.getD k 0 != 0) = true := by simpa using hz
        clear hz HT
        generalize st.getD k 0 = x at *
        go_wp2
        go_round
        case rel => exact ⟨k + 1, by omega, by rw [HT'.out]; go_num, by go_num⟩
        case measure => simp [intOf]; omega
    · obtain rfl : k = 32 := by omega
      have e : Hid (st.take 32 = st) := List.take_of_length_le (by rw [hl.out]; exact Nat.le_refl _)
      clear hlt hk
      go_wp2
      go_ret
      exact ⟨by rw [e.out]; rfl, (Keeps.refl _ _).alloc _⟩

set_option maxHeartbeats 400000 in
theorem refMany_any (g : Nat) (m : Int) (st : List Int) (w : World) (hd : IsDesk w g 42 m st) (hm0 : 0 ≤ m) (hm : m ≤ 32) :
    Calls Try.prog 20 #[.pointer (some ⟨g, 0, none⟩)] w fun e w' => e = .returned (.int .i64 (many (st.take m.toNat))) ∧ w = w' := by
  have hm1 := hd.most
  have hl := Lib.hid hd.1
  go_enter Try.func20, Try.ntmps20
  go_wp2
  go_loop [3, 4] (fun n i => ∃ k : Nat, k ≤ m ∧ n = .int .i64 (many (st.take k)) ∧ i = .int .i64 k) (fun _ i => (m - (intOf i)).toNat)
  case atStart => exact ⟨0, by omega, rfl, rfl⟩
  case round =>
    obtain ⟨k, hk, rfl, rfl⟩ := hrel
    by_cases hlt : (k : Int) < m
    · have HT := Lib.hid (many_take (st := st) (k := k) (by rw [hl.out]; omega))
      have hle := many_le st k
      have hc := hd.at_ k (by omega)
      by_cases hz : st.getD k 0 = 0
      · have HT' : Hid (many (st.take (k + 1)) = many (st.take k)) := by have := HT.out; rw [if_neg (by simpa using hz)] at this; exact this
        have hz' : (st.getD k 0 != 0) = false := by simpa using hz
        clear hz HT
        generalize st.getD k 0 = x at *
        go_wp2
        go_round
        case rel => exact ⟨k + 1, by omega, by rw [HT'.out], by go_num⟩
        case measure => simp [intOf]; omega
      · have HT' : Hid (many (st.take (k + 1)) = many (st.take k) + 1) := by have := HT.out; rw [if_pos (by simpa using hz)] at this; exact this
        have hz' : (st.getD k 0 != 0) = true := by simpa using hz
        clear hz HT
        generalize st.getD k 0 = x at *
        go_wp2
        go_round
        case rel => exact ⟨k + 1, by omega, by rw [HT'.out]; go_num, by go_num⟩
        case measure => simp [intOf]; omega
    · have e : Hid (m.toNat = k) := by show m.toNat = k; omega
      go_wp2
      go_ret
      exact ⟨by rw [e.out]; rfl, rfl⟩

set_option maxHeartbeats 400000 in
theorem deskClose_any (g : Nat) (m : Int) (st : List Int) (c : Int) (w : World) (hd : IsDesk w g 40 m st) (hm : m ≤ 32) :
    Calls Try.prog 13 #[.pointer (some ⟨g, 0, none⟩), .int .i64 c] w (turns g 40 m st c 0 [1, 2] w) := by
  have hd' : IsDesk (w.alloc (Obj.cells #[.int .i64 1, .int .i64 2] 3)) g 40 m st := hd.kept (Below.heap_alloc _ _ _ hd.lt)
  go_enter Try.func13, Try.ntmps13
  go_wp2_with (go_at_call 21; (with_reducible refine (deskTurn_any g m st c _ _ 2 _ [1, 2] _ hd' hm rfl (by omega) ?h0 ?hr).mono ?_))
  case h0 => simp
  case hr =>
    intro j hj
    rcases (by omega : j = 0 ∨ j = 1) with rfl | rfl <;> simp
  rintro e w' ⟨rfl, hh⟩
  go_wp2
  go_ret
  exact ⟨rfl, hh.1, ((Keeps.refl (Only g) w).alloc _).trans hh.2⟩

set_option maxHeartbeats 400000 in
theorem refEnd_any (g : Nat) (m : Int) (st : List Int) (c : Int) (w : World) (hd : IsDesk w g 42 m st) (hm : m ≤ 32) :
    Calls Try.prog 16 #[.pointer (some ⟨g, 0, none⟩), .int .i64 c] w (turns g 42 m st c 2 [1] w) := by
  by_cases h : deskState m st c = 1
  · have R := turns_yes (fs := [1]) (to := 2) hd (by rw [h]; simp)
    have hcm := deskState_in (m := m) (st := st) (c := c) (by omega)
    have hcell := hd.at_ c.toNat (by omega)
    have hf := hd.free (1 + c.toNat)
    have h' : (deskState m st c != 1) = false := by simp [h]
    clear h
    go_enter Try.func16, Try.ntmps16
    go_wp2_with ((with_reducible refine (refState_any g m st c _ hd hm).mono ?_); rintro e w' ⟨rfl, rfl⟩)
    go_ret
    exact R
  · have R := turns_no (fs := [1]) (to := 2) (c := c) hd (by simpa using h)
    have h' : (deskState m st c != 1) = true := by simp [h]
    go_enter Try.func16, Try.ntmps16
    go_wp2_with ((with_reducible refine (refState_any g m st c _ hd hm).mono ?_); rintro e w' ⟨rfl, rfl⟩)
    go_ret
    exact R

/-- Free, live or ended: each place. -/
def Stands (st : List Int) : Prop := ∀ x ∈ st, x = 0 ∨ x = 1 ∨ x = 2
theorem Stands.state {st : List Int} (h : Stands st) (m c : Int) : deskState m st c = 0 ∨ deskState m st c = 1 ∨ deskState m st c = 2 := by
  unfold deskState
  split
  · rw [List.getD_eq_getElem?_getD]
    cases e : st[c.toNat]? with
    | none => exact .inl rfl
    | some x => exact h x (List.mem_of_getElem? e)
  · exact .inl rfl

set_option maxHeartbeats 400000 in
theorem refClose_any (g : Nat) (m : Int) (st : List Int) (c : Int) (w : World) (hd : IsDesk w g 42 m st) (hm : m ≤ 32) (hs : Stands st) :
    Calls Try.prog 14 #[.pointer (some ⟨g, 0, none⟩), .int .i64 c] w (turns g 42 m st c 0 [1, 2] w) := by
  by_cases h : deskState m st c = 0
  · have R := turns_no (fs := [1, 2]) (to := 0) (c := c) hd (by rw [h]; simp)
    have h' : (deskState m st c == 0) = true := by simp [h]
    clear h hs
    go_enter Try.func14, Try.ntmps14
    go_wp2_with ((with_reducible refine (refState_any g m st c _ hd hm).mono ?_); rintro e w' ⟨rfl, rfl⟩)
    go_ret
    exact R
  · have R := turns_yes (c := c) (fs := [1, 2]) (to := 0) hd (by rcases hs.state m c with h' | h' | h' <;> simp_all)
    have hcm := deskState_in h
    have hcell := hd.at_ c.toNat (by omega)
    have hf := hd.free (1 + c.toNat)
    have h' : (deskState m st c == 0) = false := by simp [h]
    clear h hs
    go_enter Try.func14, Try.ntmps14
    go_wp2_with ((with_reducible refine (refState_any g m st c _ hd hm).mono ?_); rintro e w' ⟨rfl, rfl⟩)
    go_ret
    exact R
end Go.Proofs.Ytildgpecdapnhaa
