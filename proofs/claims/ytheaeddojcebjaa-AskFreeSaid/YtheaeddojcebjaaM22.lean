/-
  The bytes of a request, parsed; cut, and with one more.
-/
import Derived.Test.YtheaeddojcebjaaM21
set_option maxRecDepth 100000
set_option maxHeartbeats 4000000
set_option linter.unusedVariables false
set_option linter.unusedSimpArgs false
namespace Go.Proofs.Ytheaeddojcebjaa
open Go.RowKit

theorem w2_at {x : Int} : x / 256 * 256 + x % 256 = x := by omega
theorem wsOf_ws2 : ∀ (ws : List Int), wsOf (ws2 ws) ws.length = ws
  | [] => rfl
  | w :: ws => by
    have h := wsOf_ws2 ws
    have e : ws2 (w :: ws) = w / 256 :: w % 256 :: ws2 ws := rfl
    rw [e]
    unfold wsOf at h ⊢
    rw [List.length_cons, List.range_succ_eq_map, List.map_cons, List.map_map]
    congr 1
    simp [wAt]
    omega
theorem fit_pack {bs : List Bool} {n : Int} (h : (bs.length : Int) = n) (h1 : 1 ≤ n) : fit (packL bs) n = true := by
  have e : (packL bs).length = (bs.length + 7) / 8 := packN_length _ _
  refine decide_eq_true ⟨by omega, ?_⟩
  rw [e, ← h, nBytes_nat]
theorem askB_fn (a : Ask) : (askB a).getD 0 0 = a.fn ∧ 1 ≤ (askB a).length := by
  unfold askB
  repeat' split
  all_goals simp
/-- What a request's bytes are behind its function, and that they are it. -/
theorem askB_ok {a : Ask} (hf : a.Fit) (h : a.right = true) : askOk a.fn ((askB a).drop 1) = true ∧ askOf a.fn ((askB a).drop 1) = a ∧ (askB a).length ≤ 252 ∧ (a.fn = 43 → 2 ≤ (askB a).length ∧ (askB a).getD 1 0 = 14) := by
  have hk := right_known h
  have hv := hf.val
  have ha := hf.and_
  have ho := hf.or_
  have h' := h
  obtain ⟨fn, at_, n, vl, an, og, bs, ws, ra, rn, cd, ob⟩ := a
  have hfn := of_decide_eq_true hk
  simp only at hfn hv ha ho
  clear hk
  rcases hfn with rfl | rfl | rfl | rfl | rfl | rfl | rfl | rfl | rfl | rfl | rfl
  all_goals simp [Ask.right, Ask.same, Ask.only, Ask.rest, known, countsB, kMost, placeB] at h
  case inr.inr.inr.inr.inr.inr.inl =>
    have e : (packL bs).length = (bs.length + 7) / 8 := packN_length _ _
    have hfp := fit_pack (bs := bs) (n := n) (by omega) (by omega)
    have hu := unpack_pack bs
    have hnb : nBytes n = (packL bs).length := (of_decide_eq_true hfp).2.symm
    have hn : n.toNat = bs.length := by omega
    refine ⟨?_, ?_, ?_, by simp⟩
    · simp [askB, askOk, coilsOk, w2, wAt, w2_at, hfp, hnb]
    · simp [askB, askOf, w2, wAt, w2_at, hn, hu]
      simp [h]
    · simp [askB, w2, e]; omega
  case inr.inr.inr.inr.inr.inr.inr.inl =>
    have e := ws2_len ws
    have hu := wsOf_ws2 ws
    have hn : n.toNat = ws.length := by omega
    refine ⟨?_, ?_, ?_, by simp⟩
    · simp [askB, askOk, wordsOk, w2, wAt, w2_at, e, hn]; omega
    · simp [askB, askOf, w2, wAt, w2_at, hn, hu]
      simp [h]
    · simp [askB, w2, e]; omega
  case inr.inr.inr.inr.inr.inr.inr.inr.inr.inl =>
    have e := ws2_len ws
    have hu := wsOf_ws2 ws
    have hn : n.toNat = ws.length := by omega
    refine ⟨?_, ?_, ?_, by simp⟩
    · simp [askB, askOk, wordsOk, w2, wAt, w2_at, e, hn]; omega
    · simp [askB, askOf, w2, wAt, w2_at, hn, hu]
      simp [h]
    · simp [askB, w2, e]; omega
  all_goals
    refine ⟨?_, ?_, by simp [askB, w2], by simp [askB]⟩
    · simp [askB, askOk, w2, wAt] <;> omega
    · simp [askB, askOf, w2, wAt, w2_at]
      simp [h]
      try omega
theorem pAsk_askB {a : Ask} (hf : a.Fit) (h : a.right = true) : pAsk (askB a) = (a, 0) := by
  obtain ⟨h1, h2, h3, h4⟩ := askB_ok hf h
  obtain ⟨h5, h6⟩ := askB_fn a
  unfold pAsk
  rw [if_neg (by omega), h5, right_known h, if_neg (by simp), if_neg (fun hh => by have := (h4 hh.1).1; omega), if_neg (fun hh => hh.2 (h4 hh.1).2), h1, h2, h]
  rfl
/-- How long the fields are, as they tell it. -/
def aLen (fn : Int) (xs : List Int) : Int :=
  if fn = 15 ∨ fn = 16 then (if 5 ≤ xs.length then 5 + xs.getD 4 0 else 5)
  else if fn = 23 then (if 9 ≤ xs.length then 9 + xs.getD 8 0 else 9)
  else if fn = 22 then 6 else if fn = 43 then 3 else 4
theorem askOk_len {fn : Int} {xs : List Int} (hk : known fn = true) (h : askOk fn xs = true) : (xs.length : Int) = aLen fn xs := by
  have hf := of_decide_eq_true hk
  have e4 : (xs.drop 4).getD 0 0 = xs.getD 4 0 := getD_dr xs 4 0
  have e8 : (xs.drop 8).getD 0 0 = xs.getD 8 0 := getD_dr xs 8 0
  rcases hf with rfl | rfl | rfl | rfl | rfl | rfl | rfl | rfl | rfl | rfl | rfl
  all_goals simp only [askOk, coilsOk, wordsOk, e4, e8] at h
  all_goals simp at h
  all_goals simp [aLen]
  all_goals (try omega)
  all_goals
    obtain ⟨h1, h2⟩ := h
    simp [h1]
    omega
theorem pAsk_bad {c : List Int} (h1 : 1 ≤ c.length) (h2 : c.length ≤ 253) (hk : known (c.getD 0 0) = true) (h43 : c.getD 0 0 = 43 → c.length < 2 ∨ c.getD 1 0 = 14) (hno : askOk (c.getD 0 0) (c.drop 1) = false) : (pAsk c).2 = 3 := by
  unfold pAsk
  rw [if_neg (by omega), if_neg (by rw [hk]; decide)]
  split
  · rfl
  · rename_i h
    rw [if_neg (fun hh => (h43 hh.1).elim (fun h' => h ⟨hh.1, h'⟩) hh.2), hno]
    rfl
theorem askOk_no {fn : Int} {xs : List Int} (hk : known fn = true) (h : (xs.length : Int) ≠ aLen fn xs) : askOk fn xs = false := by
  cases hh : askOk fn xs with
  | false => rfl
  | true => exact absurd (askOk_len hk hh) h
theorem getD_take {l : List Int} {n i : Nat} (h : i < n) : (l.take n).getD i 0 = l.getD i 0 := by simp [List.getD_eq_getElem?_getD, List.getElem?_take, h]
theorem cut_ok {a : Ask} (hf : a.Fit) (h : a.right = true) {n : Nat} (h1 : 1 ≤ n) (h2 : n < (askB a).length) : (pAsk ((askB a).take n)).2 = 3 := by
  obtain ⟨k1, k2, k3, k4⟩ := askB_ok hf h
  obtain ⟨k5, k6⟩ := askB_fn a
  have hk := right_known h
  have hl : ((askB a).take n).length = n := by simp; omega
  have g0 : ((askB a).take n).getD 0 0 = a.fn := by rw [getD_take (by omega), k5]
  have hlen := askOk_len hk k1
  refine pAsk_bad (by omega) (by omega) (by rw [g0]; exact hk) (fun h43 => ?_) ?_
  · rw [g0] at h43
    by_cases hn : n < 2
    · left; omega
    · right; rw [getD_take (by omega)]; exact (k4 h43).2
  · rw [g0]
    refine askOk_no hk ?_
    rw [List.drop_take]
    have hl1 : (((askB a).drop 1).take (n - 1)).length = n - 1 := by simp; omega
    have hl2 : ((askB a).drop 1).length = (askB a).length - 1 := by simp
    rw [hl1]
    unfold aLen at hlen ⊢
    rw [hl1]
    have e4 : 5 ≤ n - 1 → (((askB a).drop 1).take (n - 1)).getD 4 0 = ((askB a).drop 1).getD 4 0 := fun h => getD_take (by omega)
    have e8 : 9 ≤ n - 1 → (((askB a).drop 1).take (n - 1)).getD 8 0 = ((askB a).drop 1).getD 8 0 := fun h => getD_take (by omega)
    generalize (((askB a).drop 1).take (n - 1)).getD 4 0 = y4 at *
    generalize (((askB a).drop 1).take (n - 1)).getD 8 0 = y8 at *
    generalize ((askB a).drop 1).getD 4 0 = x4 at *
    generalize ((askB a).drop 1).getD 8 0 = x8 at *
    rw [hl2] at hlen
    split
    · rename_i hc
      rw [if_pos hc] at hlen
      split <;> split at hlen <;> omega
    · rename_i hc
      rw [if_neg hc] at hlen
      split
      · rename_i hc
        rw [if_pos hc] at hlen
        split <;> split at hlen <;> omega
      · rename_i hc
        rw [if_neg hc] at hlen
        split <;> (try split) <;> split at hlen <;> (try split at hlen) <;> omega
theorem more_ok {a : Ask} (hf : a.Fit) (h : a.right = true) (x : Int) : (pAsk (askB a ++ [x])).2 = 3 := by
  obtain ⟨k1, k2, k3, k4⟩ := askB_ok hf h
  obtain ⟨k5, k6⟩ := askB_fn a
  have hk := right_known h
  have hl : (askB a ++ [x]).length = (askB a).length + 1 := by simp
  have g0 : (askB a ++ [x]).getD 0 0 = a.fn := by rw [getD_app (by omega), k5]
  have hlen := askOk_len hk k1
  refine pAsk_bad (by omega) (by omega) (by rw [g0]; exact hk) (fun h43 => ?_) ?_
  · rw [g0] at h43
    right
    rw [getD_app (by have := (k4 h43).1; omega)]; exact (k4 h43).2
  · rw [g0]
    refine askOk_no hk ?_
    have hd : (askB a ++ [x]).drop 1 = (askB a).drop 1 ++ [x] := by rw [List.drop_append_of_le_length (by omega)]
    rw [hd]
    have hl1 : ((askB a).drop 1 ++ [x]).length = (askB a).length := by simp; omega
    have hl2 : ((askB a).drop 1).length = (askB a).length - 1 := by simp
    unfold aLen at hlen ⊢
    rw [hl1]
    have e4 : 5 ≤ (askB a).length - 1 → ((askB a).drop 1 ++ [x]).getD 4 0 = ((askB a).drop 1).getD 4 0 := fun h => getD_app (by omega)
    have e8 : 9 ≤ (askB a).length - 1 → ((askB a).drop 1 ++ [x]).getD 8 0 = ((askB a).drop 1).getD 8 0 := fun h => getD_app (by omega)
    generalize ((askB a).drop 1 ++ [x]).getD 4 0 = y4 at *
    generalize ((askB a).drop 1 ++ [x]).getD 8 0 = y8 at *
    generalize ((askB a).drop 1).getD 4 0 = x4 at *
    generalize ((askB a).drop 1).getD 8 0 = x8 at *
    rw [hl2] at hlen
    split
    · rename_i hc
      rw [if_pos hc] at hlen
      split <;> split at hlen <;> omega
    · rename_i hc
      rw [if_neg hc] at hlen
      split
      · rename_i hc
        rw [if_pos hc] at hlen
        split <;> split at hlen <;> omega
      · rename_i hc
        rw [if_neg hc] at hlen
        split <;> (try split) <;> split at hlen <;> (try split at hlen) <;> omega
theorem askB_byt {a : Ask} (hf : a.Fit) (h : a.right = true) : Byt (askB a) := by
  have hk := right_known h
  have hv := hf.val
  have ha := hf.and_
  have ho := hf.or_
  have hw := hf.wrd
  have kr := known_rng hk
  have w2b : ∀ x : Int, 0 ≤ x ∧ x ≤ 65535 → Byt (w2 x) := fun x hx y hy => by simp [w2] at hy; rcases hy with rfl | rfl <;> omega
  have app : ∀ {l m : List Int}, Byt l → Byt m → Byt (l ++ m) := fun h1 h2 y hy => (List.mem_append.1 hy).elim (h1 y) (h2 y)
  have one : ∀ {x : Int}, 0 ≤ x ∧ x ≤ 255 → Byt [x] := fun hx y hy => by simp at hy; subst hy; exact hx
  have w2s : ∀ {l : List Int}, Wrd l → Byt (ws2 l) := fun hl y hy => by
    simp only [ws2, List.mem_flatMap] at hy
    obtain ⟨z, hz, hy⟩ := hy
    exact w2b z (hl z hz) y hy
  have pk : ∀ l : List Bool, Byt (packL l) := fun l y hy => by
    simp only [packL, packN, List.mem_map] at hy
    obtain ⟨j, _, rfl⟩ := hy
    have := byteAt_lt l j
    omega
  obtain ⟨fn, at_, n, vl, an, og, bs, ws, ra, rn, cd, ob⟩ := a
  have hfn := of_decide_eq_true hk
  simp only at hfn hv ha ho hw kr
  rcases hfn with rfl | rfl | rfl | rfl | rfl | rfl | rfl | rfl | rfl | rfl | rfl
  all_goals simp [Ask.right, Ask.same, Ask.only, Ask.rest, known, countsB, kMost, placeB] at h
  all_goals simp only [askB]
  case inr.inr.inr.inr.inr.inr.inl =>
    have hnb := nBytes_rng (n := n) (by omega)
    exact app (app (app (app (one (by omega)) (w2b _ (by omega))) (w2b _ (by omega))) (one (by omega))) (pk _)
  case inr.inr.inr.inr.inr.inr.inr.inl => exact app (app (app (app (one (by omega)) (w2b _ (by omega))) (w2b _ (by omega))) (one (by omega))) (w2s hw)
  case inr.inr.inr.inr.inr.inr.inr.inr.inr.inl => exact app (app (app (app (app (app (one (by omega)) (w2b _ (by omega))) (w2b _ (by omega))) (w2b _ (by omega))) (w2b _ (by omega))) (one (by omega))) (w2s hw)
  all_goals first
    | exact app (app (one (by omega)) (w2b _ (by omega))) (w2b _ (by omega))
    | exact app (app (app (one (by omega)) (w2b _ (by omega))) (w2b _ (by omega))) (w2b _ (by omega))
    | (intro y hy; simp at hy; rcases hy with rfl | rfl | rfl | rfl <;> omega)
end Go.Proofs.Ytheaeddojcebjaa
