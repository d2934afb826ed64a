/-
  What is told is parsed as it was.
-/
import Derived.Test.YtheaeddojcebjaaM43
import Derived.Test.YtheaeddojcebjaaM45
set_option maxRecDepth 100000
set_option maxHeartbeats 4000000
set_option linter.unusedVariables false
set_option linter.unusedSimpArgs false
namespace Go.Proofs.Ytheaeddojcebjaa
open Go.RowKit

theorem sB_byt (s : ByteArray) : Byt (sB s) := by
  intro x hx
  simp only [sB, List.mem_map] at hx
  obtain ⟨b, _, rfl⟩ := hx
  have := b.toNat_lt
  omega
theorem bytesOf_sB (s : ByteArray) : bytesOf (sB s) = s := by
  unfold bytesOf sB
  have : (List.map (fun n : Int => UInt8.ofNat n.toNat) (List.map (fun b : UInt8 => (b.toNat : Int)) s.data.toList)) = s.data.toList := by
    rw [List.map_map]
    conv => rhs; rw [← List.map_id s.data.toList]
    refine List.map_congr_left fun b _ => ?_
    simp
  rw [this]
theorem tv_objB : ∀ (l : List Obj), (∀ o ∈ l, 0 ≤ o.1 ∧ o.1 ≤ 255 ∧ o.2.size ≤ 255) → tv l.length (objB l) = some (l, [])
  | [], _ => rfl
  | o :: l, h => by
    obtain ⟨h1, h2, h3⟩ := h o (by simp)
    have ih := tv_objB l (fun p hp => h p (by simp [hp]))
    have e : objB (o :: l) = o.1 :: (o.2.size : Int) :: (sB o.2 ++ objB l) := by simp [objB]
    rw [e]
    show tv (l.length + 1) _ = _
    unfold tv
    have d1 : (o.1 :: (o.2.size : Int) :: (sB o.2 ++ objB l)).getD 1 0 = (o.2.size : Int) := rfl
    have d0 : (o.1 :: (o.2.size : Int) :: (sB o.2 ++ objB l)).getD 0 0 = o.1 := rfl
    rw [d1, d0, if_pos (by simp; omega)]
    have d2 : List.drop (2 + (o.2.size : Int).toNat) (o.1 :: (o.2.size : Int) :: (sB o.2 ++ objB l)) = objB l := by
      rw [show 2 + (o.2.size : Int).toNat = o.2.size + 1 + 1 by omega, List.drop_succ_cons, List.drop_succ_cons, List.drop_append_of_le_length (by simp), ← sB_len, List.drop_length, List.nil_append]
    have d3 : List.take (o.2.size : Int).toNat (List.drop 2 (o.1 :: (o.2.size : Int) :: (sB o.2 ++ objB l))) = sB o.2 := by
      rw [Int.toNat_natCast]
      show List.take o.2.size (sB o.2 ++ objB l) = _
      rw [List.take_append_of_le_length (by simp), ← sB_len, List.take_length]
    rw [d2, d3, ih, bytesOf_sB]
theorem one_false {b : Bool} : one b = one false ↔ b = false := by cases b <;> simp [one]
/-- A reply that is right has the fields of its function alone. -/
theorem right_only {a : Tell} (h : a.right = true) (he : a.exc = 0) : a = a.only := by
  have hk := of_decide_eq_true (tRight_known h he)
  simp only [Tell.right, if_pos he, Bool.and_eq_true] at h
  have h := h.2.1
  obtain ⟨fn, exc, bs, ws, at_, n, vl, an, og, cd, lv, mo, nx, os⟩ := a
  simp only at he hk
  subst he
  rcases hk with rfl | rfl | rfl | rfl | rfl | rfl | rfl | rfl | rfl | rfl | rfl
  all_goals
    simp [tEq, Tell.only, one_false] at h
    simp_all [Tell.only]
theorem wsOf_ws6 : ∀ (ws : List Int), wsOf (ws2 ws) ws.length = ws
  | [] => rfl
  | w :: ws => by
    have h := wsOf_ws6 ws
    have e : ws2 (w :: ws) = w / 256 :: w % 256 :: ws2 ws := rfl
    rw [e]
    unfold wsOf at h ⊢
    rw [List.length_cons, List.range_succ_eq_map, List.map_cons, List.map_map]
    congr 1
    simp [wAt]
    omega
theorem fit_pack6 {bs : List Bool} {n : Int} (h : (bs.length : Int) = n) (h1 : 1 ≤ n) : fit (packL bs) n = true := by
  have e : (packL bs).length = (bs.length + 7) / 8 := packN_length _ _
  refine decide_eq_true ⟨by omega, ?_⟩
  rw [e, ← h, nBytes_nat]
theorem pTell_tellB {a : Tell} (hf : a.Fit) (h : a.right = true) (he : a.exc = 0) {n : Int} (hn : a.fn = 1 ∨ a.fn = 2 → n = a.bits.length) : pTell (tellB a) n = (a, 0) := by
  have hk := tRight_known h he
  have ho := right_only h he
  have hfn : (tellB a).getD 0 0 = a.fn ∧ 1 ≤ (tellB a).length ∧ a.fn < 128 := by
    have hk' := of_decide_eq_true hk
    refine ⟨?_, ?_, by omega⟩
    · unfold tellB
      rw [if_pos he]
      repeat' split
      all_goals simp
      all_goals omega
    · unfold tellB
      rw [if_pos he]
      repeat' split
      all_goals simp [w2]
  have hm : tellOk a.fn n ((tellB a).drop 1) = true ∧ tellOf a.fn n ((tellB a).drop 1) = a := by
    have hk' := of_decide_eq_true hk
    simp only [Tell.right, if_pos he, Bool.and_eq_true] at h
    obtain ⟨_, _, hp, hrst⟩ := h
    have hv := hf.val
    have hw := hf.wrd
    obtain ⟨fn, exc, bs, ws, at_, m, vl, an, og, cd, lv, mo, nx, os⟩ := a
    simp only at he hk' hv hn hp hw
    have hp := of_decide_eq_true hp
    subst he
    clear hfn hk hf
    rcases hk' with rfl | rfl | rfl | rfl | rfl | rfl | rfl | rfl | rfl | rfl | rfl
    · simp [Tell.only] at ho
      obtain ⟨rfl, rfl, rfl, rfl, rfl, rfl, rfl, rfl, rfl, rfl, rfl⟩ := ho
      have hn' : n = bs.length := hn (by simp)
      subst hn'
      have hb : 1 ≤ bs.length := by simp [Tell.rest, countsB] at hrst; omega
      have e : tellB { fn := 1, bits := bs } = 1 :: ((packL bs).length : Int) :: packL bs := by simp [tellB]
      rw [e]
      refine ⟨?_, ?_⟩
      · simp [tellOk, bOk, fit_pack6 rfl (show (1 : Int) ≤ bs.length by omega)]
      · simp [tellOf, unpack_pack]
    · simp [Tell.only] at ho
      obtain ⟨rfl, rfl, rfl, rfl, rfl, rfl, rfl, rfl, rfl, rfl, rfl⟩ := ho
      have hn' : n = bs.length := hn (by simp)
      subst hn'
      have hb : 1 ≤ bs.length := by simp [Tell.rest, countsB] at hrst; omega
      have e : tellB { fn := 2, bits := bs } = 2 :: ((packL bs).length : Int) :: packL bs := by simp [tellB]
      rw [e]
      refine ⟨?_, ?_⟩
      · simp [tellOk, bOk, fit_pack6 rfl (show (1 : Int) ≤ bs.length by omega)]
      · simp [tellOf, unpack_pack]
    · simp [Tell.only] at ho
      obtain ⟨rfl, rfl, rfl, rfl, rfl, rfl, rfl, rfl, rfl, rfl, rfl⟩ := ho
      have e : tellB { fn := 3, words := ws } = 3 :: 2 * (ws.length : Int) :: ws2 ws := by simp [tellB]
      rw [e]
      refine ⟨?_, ?_⟩
      · simp [tellOk, w6Ok, ws2_len]
      · have q : (2 * (ws.length : Int) / 2).toNat = ws.length := by omega
        simp [tellOf, q, wsOf_ws6]
    · simp [Tell.only] at ho
      obtain ⟨rfl, rfl, rfl, rfl, rfl, rfl, rfl, rfl, rfl, rfl, rfl⟩ := ho
      have e : tellB { fn := 4, words := ws } = 4 :: 2 * (ws.length : Int) :: ws2 ws := by simp [tellB]
      rw [e]
      refine ⟨?_, ?_⟩
      · simp [tellOk, w6Ok, ws2_len]
      · have q : (2 * (ws.length : Int) / 2).toNat = ws.length := by omega
        simp [tellOf, q, wsOf_ws6]
    · simp [Tell.only] at ho
      obtain ⟨rfl, rfl, rfl, rfl, rfl, rfl, rfl, rfl, rfl, rfl⟩ := ho
      refine ⟨?_, ?_⟩
      · simp [tellOk, tellB, w2, wAt]
        simp [Tell.rest] at hrst
        omega
      · simp [tellOf, tellB, w2, wAt]
        all_goals (repeat' (first | omega | apply And.intro))
    · simp [Tell.only] at ho
      obtain ⟨rfl, rfl, rfl, rfl, rfl, rfl, rfl, rfl, rfl, rfl⟩ := ho
      refine ⟨?_, ?_⟩
      · simp [tellOk, tellB, w2, wAt]
      · simp [tellOf, tellB, w2, wAt]
        all_goals (repeat' (first | omega | apply And.intro))
    · simp [Tell.only] at ho
      obtain ⟨rfl, rfl, rfl, rfl, rfl, rfl, rfl, rfl, rfl, rfl⟩ := ho
      refine ⟨?_, ?_⟩
      · simp [tellOk, tellB, w2, wAt]
      · simp [tellOf, tellB, w2, wAt]
        all_goals (repeat' (first | omega | apply And.intro))
    · simp [Tell.only] at ho
      obtain ⟨rfl, rfl, rfl, rfl, rfl, rfl, rfl, rfl, rfl, rfl⟩ := ho
      refine ⟨?_, ?_⟩
      · simp [tellOk, tellB, w2, wAt]
      · simp [tellOf, tellB, w2, wAt]
        all_goals (repeat' (first | omega | apply And.intro))
    · simp [Tell.only] at ho
      obtain ⟨rfl, rfl, rfl, rfl, rfl, rfl, rfl, rfl, rfl⟩ := ho
      refine ⟨?_, ?_⟩
      · simp [tellOk, tellB, w2, wAt]
      · simp [tellOf, tellB, w2, wAt]
        all_goals (repeat' (first | omega | apply And.intro))
    · simp [Tell.only] at ho
      obtain ⟨rfl, rfl, rfl, rfl, rfl, rfl, rfl, rfl, rfl, rfl, rfl⟩ := ho
      have e : tellB { fn := 23, words := ws } = 23 :: 2 * (ws.length : Int) :: ws2 ws := by simp [tellB]
      rw [e]
      refine ⟨?_, ?_⟩
      · simp [tellOk, w6Ok, ws2_len]
      · have q : (2 * (ws.length : Int) / 2).toNat = ws.length := by omega
        simp [tellOf, q, wsOf_ws6]
    · simp [Tell.only] at ho
      obtain ⟨rfl, rfl, rfl, rfl, rfl, rfl, rfl⟩ := ho
      simp [Tell.rest] at hrst
      obtain ⟨r1, r2, r3⟩ := objsOk_rng (show (7 : Int) ≤ 253 by omega) hrst.2.2.2
      have ht := tv_objB os (fun o ho => by
        obtain ⟨i, hi, rfl⟩ := List.getElem_of_mem ho
        have := r3 i hi
        omega)
      have e : (tellB { fn := 43, code := cd, level := lv, more := mo, next := nx, objs := os }).drop 1 = [14, cd, lv, if mo then 255 else 0, nx, (os.length : Int)] ++ objB os := by simp [tellB]
      rw [e]
      have e5 : ([14, cd, lv, if mo then 255 else 0, nx, (os.length : Int)] ++ objB os).getD 5 0 = os.length := rfl
      have e6 : ([14, cd, lv, if mo then 255 else 0, nx, (os.length : Int)] ++ objB os).drop 6 = objB os := rfl
      refine ⟨?_, ?_⟩
      · simp only [tellOk, d6Ok, e5, e6, Int.toNat_natCast, ht]
        cases mo <;> simp
      · simp only [tellOf, d6Of, e5, e6, Int.toNat_natCast, ht]
        cases mo <;> simp
  unfold pTell
  rw [if_neg (by omega), hfn.1, hk, if_neg (by simp; intro q; simp [q] at hfn), hm.1, hm.2, h]
  rfl
end Go.Proofs.Ytheaeddojcebjaa
