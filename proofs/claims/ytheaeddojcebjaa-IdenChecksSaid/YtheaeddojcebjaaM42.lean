/-
  The document's Parse of a reply.
-/
import Derived.Test.YtheaeddojcebjaaM41
set_option maxRecDepth 100000
set_option maxHeartbeats 4000000
set_option linter.unusedVariables false
set_option linter.unusedSimpArgs false
namespace Go.Proofs.Ytheaeddojcebjaa
open Go.RowKit

/-- What is heard is what the cursor gives, as far as it may be. -/
def TRd (fn n : Int) (b : List Int) : Prop :=
  (tellOk fn n (b.drop 1) = true → rdTell fn n b = (tellOf fn n (b.drop 1), true) ∨ ((rdTell fn n b).2 = false ∧ (tellOf fn n (b.drop 1)).right = false)) ∧ (tellOk fn n (b.drop 1) = false → (rdTell fn n b).2 = false)
theorem tRd_ok {b : List Int} (hb : Byt b) (h0 : 1 ≤ b.length) {fn n : Int} (hk : known fn = true) : TRd fn n b := by
  have hr1 := at_byt hb 1
  have g1 : (b.drop 1).getD 0 0 = b.getD 1 0 := getD_dr b 1 0
  have hdl : (b.drop 1).length = b.length - 1 := by simp
  have hd2 : (b.drop 1).drop 1 = b.drop 2 := by rw [List.drop_drop]
  have hd2l : (b.drop 2).length = b.length - 2 := by simp
  have w0 : wAt (b.drop 1) 0 = wAt b 1 := wAt_dr b 1 0
  have w2 : wAt (b.drop 1) 2 = wAt b 3 := wAt_dr b 1 2
  have w4 : wAt (b.drop 1) 4 = wAt b 5 := wAt_dr b 1 4
  have A : ∀ fn, (fn = 1 ∨ fn = 2) → TRd fn n b := fun fn hf => by
    have eo : tellOk fn n (b.drop 1) = bOk (b.drop 1) n := by unfold tellOk; rw [if_pos hf]
    have ef : tellOf fn n (b.drop 1) = { fn := fn, bits := unpackL (b.drop 2) n.toNat } := by unfold tellOf; rw [if_pos hf, hd2]
    unfold TRd
    rw [eo, ef]
    unfold bOk rdTell
    rw [if_pos hf, g1, hd2, hdl, hd2l]
    by_cases c : 2 ≤ b.length ∧ b.getD 1 0 = (b.length : Int) - 2 ∧ 1 ≤ n ∧ n ≤ 2000
    · rw [if_pos c]
      constructor
      · intro h
        simp only [Bool.and_eq_true] at h
        simp only
        rw [if_pos h.2, h.2]
        exact .inl rfl
      · intro h
        rw [decide_eq_true (by omega), Bool.true_and] at h
        exact h
    · rw [if_neg c]
      refine ⟨fun h => .inr ⟨rfl, ?_⟩, fun _ => rfl⟩
      simp only [Bool.and_eq_true, decide_eq_true_eq] at h
      have hn : n < 1 ∨ 2000 < n := by omega
      rcases hf with rfl | rfl <;> simp [Tell.right, Tell.rest, countsB, unpackL_len] <;> omega
  have B : ∀ fn, (fn = 3 ∨ fn = 4 ∨ fn = 23) → TRd fn n b := fun fn hf => by
    have eo : tellOk fn n (b.drop 1) = w6Ok (b.drop 1) := by unfold tellOk; rw [if_neg (by omega), if_pos hf]
    have ef : tellOf fn n (b.drop 1) = { fn := fn, words := wsOf (b.drop 2) (b.getD 1 0 / 2).toNat } := by unfold tellOf; rw [if_neg (by omega), if_pos hf, hd2, g1]
    unfold TRd
    rw [eo, ef]
    unfold w6Ok rdTell
    rw [if_neg (by omega), if_pos hf, g1, hd2, hdl, hd2l]
    by_cases c : 2 ≤ b.length ∧ b.getD 1 0 = (b.length : Int) - 2
    · rw [if_pos c]
      constructor
      · intro h
        have h := of_decide_eq_true h
        have hl : listOk b 2 (b.getD 1 0 / 2) = true := decide_eq_true (by omega)
        rw [if_pos hl, hl, ws_eq (n := (b.getD 1 0 / 2).toNat) (by omega)]
        exact .inl rfl
      · intro h
        have h := of_decide_eq_false h
        exact decide_eq_false (by omega)
    · rw [if_neg c]
      exact ⟨fun h => absurd (of_decide_eq_true h) (by omega), fun _ => rfl⟩
  have h := of_decide_eq_true hk
  rcases h with rfl | rfl | rfl | rfl | rfl | rfl | rfl | rfl | rfl | rfl | rfl
  · exact A 1 (by omega)
  · exact A 2 (by omega)
  · exact B 3 (by omega)
  · exact B 4 (by omega)
  · unfold TRd
    rw [show tellOk 5 n (b.drop 1) = decide ((b.drop 1).length = 4 ∧ (wAt (b.drop 1) 2 = 0 ∨ wAt (b.drop 1) 2 = 65280)) by simp [tellOk], show tellOf 5 n (b.drop 1) = { fn := 5, at_ := wAt (b.drop 1) 0, val := wAt (b.drop 1) 2 / 65280 } by simp [tellOf],
      show rdTell 5 n b = ({ fn := 5, at_ := wOr b 1, val := if wOr b 3 = 65280 then 1 else 0 }, decide (b.length = 5) && decide (wOr b 3 = 0 ∨ wOr b 3 = 65280)) by simp [rdTell], hdl, w0, w2]
    by_cases c : b.length = 5
    · rw [wOr_in (show 1 + 2 ≤ b.length by omega), wOr_in (show 3 + 2 ≤ b.length by omega)]
      constructor
      · intro h
        have h := of_decide_eq_true h
        refine .inl ?_
        rw [decide_eq_true c, decide_eq_true h.2]
        rcases h.2 with q | q <;> rw [q] <;> rfl
      · intro h
        have h := of_decide_eq_false h
        rw [decide_eq_false (fun q => h ⟨by omega, q⟩), Bool.and_false]
    · exact ⟨fun h => absurd (of_decide_eq_true h).1 (by omega), fun _ => by rw [decide_eq_false c]; rfl⟩
  · unfold TRd
    rw [show tellOk 6 n (b.drop 1) = decide ((b.drop 1).length = 4) by simp [tellOk], show tellOf 6 n (b.drop 1) = { fn := 6, at_ := wAt (b.drop 1) 0, val := wAt (b.drop 1) 2 } by simp [tellOf],
      show rdTell 6 n b = ({ fn := 6, at_ := wOr b 1, val := wOr b 3 }, decide (b.length = 5)) by simp [rdTell], hdl, w0, w2]
    by_cases c : b.length = 5
    · rw [wOr_in (show 1 + 2 ≤ b.length by omega), wOr_in (show 3 + 2 ≤ b.length by omega), decide_eq_true c]
      exact ⟨fun _ => .inl rfl, fun h => absurd (of_decide_eq_false h) (by omega)⟩
    · exact ⟨fun h => absurd (of_decide_eq_true h) (by omega), fun _ => decide_eq_false c⟩
  · unfold TRd
    rw [show tellOk 15 n (b.drop 1) = decide ((b.drop 1).length = 4) by simp [tellOk], show tellOf 15 n (b.drop 1) = { fn := 15, at_ := wAt (b.drop 1) 0, n := wAt (b.drop 1) 2 } by simp [tellOf],
      show rdTell 15 n b = ({ fn := 15, at_ := wOr b 1, n := wOr b 3 }, decide (b.length = 5)) by simp [rdTell], hdl, w0, w2]
    by_cases c : b.length = 5
    · rw [wOr_in (show 1 + 2 ≤ b.length by omega), wOr_in (show 3 + 2 ≤ b.length by omega), decide_eq_true c]
      exact ⟨fun _ => .inl rfl, fun h => absurd (of_decide_eq_false h) (by omega)⟩
    · exact ⟨fun h => absurd (of_decide_eq_true h) (by omega), fun _ => decide_eq_false c⟩
  · unfold TRd
    rw [show tellOk 16 n (b.drop 1) = decide ((b.drop 1).length = 4) by simp [tellOk], show tellOf 16 n (b.drop 1) = { fn := 16, at_ := wAt (b.drop 1) 0, n := wAt (b.drop 1) 2 } by simp [tellOf],
      show rdTell 16 n b = ({ fn := 16, at_ := wOr b 1, n := wOr b 3 }, decide (b.length = 5)) by simp [rdTell], hdl, w0, w2]
    by_cases c : b.length = 5
    · rw [wOr_in (show 1 + 2 ≤ b.length by omega), wOr_in (show 3 + 2 ≤ b.length by omega), decide_eq_true c]
      exact ⟨fun _ => .inl rfl, fun h => absurd (of_decide_eq_false h) (by omega)⟩
    · exact ⟨fun h => absurd (of_decide_eq_true h) (by omega), fun _ => decide_eq_false c⟩
  · unfold TRd
    rw [show tellOk 22 n (b.drop 1) = decide ((b.drop 1).length = 6) by simp [tellOk], show tellOf 22 n (b.drop 1) = { fn := 22, at_ := wAt (b.drop 1) 0, and_ := wAt (b.drop 1) 2, or_ := wAt (b.drop 1) 4 } by simp [tellOf],
      show rdTell 22 n b = ({ fn := 22, at_ := wOr b 1, and_ := wOr b 3, or_ := wOr b 5 }, decide (b.length = 7)) by simp [rdTell], hdl, w0, w2, w4]
    by_cases c : b.length = 7
    · rw [wOr_in (show 1 + 2 ≤ b.length by omega), wOr_in (show 3 + 2 ≤ b.length by omega), wOr_in (show 5 + 2 ≤ b.length by omega), decide_eq_true c]
      exact ⟨fun _ => .inl rfl, fun h => absurd (of_decide_eq_false h) (by omega)⟩
    · exact ⟨fun h => absurd (of_decide_eq_true h) (by omega), fun _ => decide_eq_false c⟩
  · exact B 23 (by omega)
  · have eo : tellOk 43 n (b.drop 1) = d6Ok (b.drop 1) := by simp [tellOk]
    have ef : tellOf 43 n (b.drop 1) = { fn := 43, code := (b.drop 1).getD 1 0, level := (b.drop 1).getD 2 0, more := (b.drop 1).getD 3 0 == 255, next := (b.drop 1).getD 4 0, objs := d6Of (b.drop 1) } := by simp [tellOf]
    have er : rdTell 43 n b = (toldA b, toldB b) := by simp [rdTell]
    have g5 : (b.drop 1).getD 5 0 = b.getD 6 0 := getD_dr b 1 5
    have g3 : (b.drop 1).getD 3 0 = b.getD 4 0 := getD_dr b 1 3
    have g2 : (b.drop 1).getD 2 0 = b.getD 3 0 := getD_dr b 1 2
    have g4 : (b.drop 1).getD 4 0 = b.getD 5 0 := getD_dr b 1 4
    have g1' : (b.drop 1).getD 1 0 = b.getD 2 0 := getD_dr b 1 1
    have hd7 : (b.drop 1).drop 6 = b.drop 7 := by rw [List.drop_drop]
    unfold TRd
    rw [eo, ef, er]
    unfold d6Ok d6Of toldB toldA toldH
    rw [g5, g3, g1, g2, g4, g1', hd7, hdl, tp_tv]
    have hp : (6 ≤ b.length - 1 ∧ b.getD 1 0 = 14 ∧ (b.getD 4 0 = 0 ∨ b.getD 4 0 = 255)) ↔ (7 ≤ b.length ∧ b.getD 1 0 = 14 ∧ (b.getD 4 0 = 0 ∨ b.getD 4 0 = 255)) := by omega
    rw [decide_eq_decide.2 hp]
    generalize decide (7 ≤ b.length ∧ b.getD 1 0 = 14 ∧ (b.getD 4 0 = 0 ∨ b.getD 4 0 = 255)) = H
    generalize tp (b.getD 6 0).toNat (b.drop 7) = T
    obtain ⟨t1, t2, t3⟩ := T
    cases H <;> cases t2 <;> simp
    exact fun h => .inl h
theorem tp_fit : ∀ (n : Nat) {xs : List Int}, Byt xs → (tp n xs).1.length ≤ n ∧ (∀ o ∈ (tp n xs).1, b64 o.1 ∧ o.2.size ≤ 1000000)
  | 0, xs, _ => ⟨by simp [tp], fun o h => by simp [tp] at h⟩
  | n + 1, xs, hb => by
    have hx0 := at_byt hb 0
    have hx := at_byt hb 1
    obtain ⟨i1, i2⟩ := tp_fit n (xs := xs.drop (2 + (xs.getD 1 0).toNat)) (fun x hx => hb x (List.mem_of_mem_drop hx))
    unfold tp
    split
    · refine ⟨by simp only [List.length_cons]; omega, ?_⟩
      intro o ho
      simp only [List.mem_cons] at ho
      rcases ho with rfl | ho
      · exact ⟨by simp only [b64]; omega, by simp only [bytesOf_size, List.length_take]; omega⟩
      · exact i2 o ho
    · exact ⟨by simp, fun o h => by simp at h⟩
theorem fitFn {fn : Int} (h : b64 fn) : Tell.Fit { fn := fn } := fitT h (by simp [b64]) (by simp [b64]) (by simp) (by simp) (by simp) (by simp) (by simp) wrd_nil rfl rfl rfl rfl rfl
theorem rdTell_fit {b : List Int} (hb : Byt b) (hl : b.length ≤ 1000) {fn n : Int} (hn : b64 n) (hf : b64 fn) : (rdTell fn n b).1.Fit := by
  have r1 := wOr_rng hb 1
  have r3 := wOr_rng hb 3
  have r5 := wOr_rng hb 5
  have q1 := at_byt hb 1
  have q2 := at_byt hb 2
  have q3 := at_byt hb 3
  have q5 := at_byt hb 5
  have q6 := at_byt hb 6
  unfold rdTell
  split
  · split
    · rename_i c
      have := unpackL_len' (b.drop 2) n
      exact fitT hf (by simp [b64]) (by simp [b64]) (by simp) (by simp) (by simp) (by simp only; omega) (by simp) wrd_nil rfl rfl rfl rfl rfl
    · exact fitFn hf
  split
  · split
    · have := ws_len' b 2 (b.getD 1 0 / 2)
      exact fitT hf (by simp [b64]) (by simp [b64]) (by simp) (by simp) (by simp) (by simp) (by simp only; omega) (ws_wrd hb 2 _) rfl rfl rfl rfl rfl
    · exact fitFn hf
  split
  · exact fitT hf (by simp only [b64]; omega) (by simp [b64]) (by simp only; split <;> omega) (by simp) (by simp) (by simp) (by simp) wrd_nil rfl rfl rfl rfl rfl
  split
  · exact fitT hf (by simp only [b64]; omega) (by simp [b64]) r3 (by simp) (by simp) (by simp) (by simp) wrd_nil rfl rfl rfl rfl rfl
  split
  · exact fitT hf (by simp only [b64]; omega) (by simp [b64]) (by simp) r3 r5 (by simp) (by simp) wrd_nil rfl rfl rfl rfl rfl
  split
  · unfold toldA
    obtain ⟨f1, f2⟩ := tp_fit (b.getD 6 0).toNat (xs := b.drop 7) (fun x hx => hb x (List.mem_of_mem_drop hx))
    split
    · exact ⟨by simp [b64], by simp [b64], by simp, by simp, wrd_nil, by simp [b64], by simp [b64], by simp, by simp, by simp, by simp only [b64]; omega, by simp only [b64]; omega, by simp only [b64]; omega, by simp only; omega, f2⟩
    · exact fitFn (by simp [b64])
  split
  · exact fitT hf (by simp only [b64]; omega) (by simp only [b64]; omega) (by simp) (by simp) (by simp) (by simp) (by simp) wrd_nil rfl rfl rfl rfl rfl
  · exact fitFn hf
theorem rdTell_fn {b : List Int} {fn n : Int} : (rdTell fn n b).1.fn = fn ∧ (rdTell fn n b).1.exc = 0 := by
  unfold rdTell toldA
  repeat' split
  all_goals first | exact ⟨rfl, rfl⟩ | exact ⟨by simp_all, rfl⟩
theorem rTellParse_ok {b : List Int} (hb : Byt b) (hl : b.length ≤ 1000) {n : Int} (hn : b64 n) : FnOk Try.prog 61 [vBy b, vI .i64 n] [] (tellR (pTell b n)) [] := by
  have hx := at_byt hb 0
  have hy := at_byt hb 1
  have hf1 := failing_ok (b.getD 1 0)
  have p0 : 1 ≤ b.length → (rI .u8 b)[0]? = some [.int .u8 (b.getD 0 0)] := fun h => rI_get (by omega)
  have p1 : 2 ≤ b.length → (rI .u8 b)[1]? = some [.int .u8 (b.getD 1 0)] := fun h => rI_get (by omega)
  by_cases h0 : b.length = 0
  · have e : pTell b n = ({}, 2) := by unfold pTell; rw [if_neg (by omega), if_pos (.inl h0)]
    rw [e]
    refine FnOk.tree t61 (.a (.b 10 true) .nil) rfl rfl rfl rfl ?_
    simp [leP, leE, leEs, leL, leC, h0]
  have g0 := p0 (by omega)
  have g0' : ∀ h : 0 < (rI .u8 b).length, (rI .u8 b)[0] = [.int .u8 (b.getD 0 0)] := fun h => by
    have := g0
    rw [List.getElem?_eq_getElem h] at this
    exact Option.some.inj this
  have hne : b ≠ [] := by rintro rfl; simp at h0
  by_cases h128 : 128 ≤ b.getD 0 0
  · by_cases h2 : b.length = 2
    · have g1 := p1 (by omega)
      have g1' : ∀ h : 1 < (rI .u8 b).length, (rI .u8 b)[1] = [.int .u8 (b.getD 1 0)] := fun h => by
        have := g1
        rw [List.getElem?_eq_getElem h] at this
        exact Option.some.inj this
      cases hf : failingB (b.getD 1 0) with
      | true =>
        rw [hf] at hf1
        have e : pTell b n = ({ fn := b.getD 0 0 - 128, exc := b.getD 1 0 }, 0) := if_pos ⟨h2, h128, hf⟩
        rw [e]
        generalize b.getD 1 0 = B1 at *
        generalize b.getD 0 0 = B0 at *
        refine FnOk.tree t61 (.a (.b 10 false) (.a (.at [.int .u8 B0]) (.a (.b 15 true) (.a (.b 19 false) (.a (.at [.int .u8 B1]) (.f [] hf1 (.a (.at [.int .u8 B0]) (.a (.at [.int .u8 B1]) .nil)))))))) rfl rfl rfl rfl ?_
        simp [leVs, leP, leE, leEs, leL, leC, h2, g0, g1, h128]
        all_goals (repeat' (first | omega | apply g0' | apply g1' | exact hne | apply And.intro))
      | false =>
        rw [hf] at hf1
        have e : pTell b n = ({}, 2) := by unfold pTell; rw [if_neg (by rw [hf]; simp), if_pos (.inr (known128 h128))]
        rw [e]
        generalize b.getD 1 0 = B1 at *
        generalize b.getD 0 0 = B0 at *
        refine FnOk.tree t61 (.a (.b 10 false) (.a (.at [.int .u8 B0]) (.a (.b 15 true) (.a (.b 19 false) (.a (.at [.int .u8 B1]) (.f [] hf1 .nil)))))) rfl rfl rfl rfl ?_
        simp [leVs, leP, leE, leEs, leL, leC, h2, g0, g1, h128]
        all_goals (repeat' (first | omega | apply g0' | apply g1' | exact hne | apply And.intro))
    · have e : pTell b n = ({}, 2) := by unfold pTell; rw [if_neg (by omega), if_pos (.inr (known128 h128))]
      rw [e]
      generalize b.getD 0 0 = B0 at *
      refine FnOk.tree t61 (.a (.b 10 false) (.a (.at [.int .u8 B0]) (.a (.b 15 true) (.a (.b 19 true) .nil)))) rfl rfl rfl rfl ?_
      simp [leVs, leP, leE, leEs, leL, leC, h2, g0, h128]
      all_goals (repeat' (first | omega | apply g0' | exact hne | apply And.intro))
  · have hh := heard_ok hb hl (by omega) hn
    have hfit := rdTell_fit hb hl (fn := b.getD 0 0) hn (by simp only [b64]; omega)
    have ht := tells6_ok hfit
    have e : pTell b n = if (rdTell (b.getD 0 0) n b).2 && (rdTell (b.getD 0 0) n b).1.right then ((rdTell (b.getD 0 0) n b).1, 0) else ({}, 2) := by
      unfold pTell
      rw [if_neg (by omega)]
      cases hK : known (b.getD 0 0) with
      | false =>
        obtain ⟨q1, q2⟩ := rdTell_fn (b := b) (fn := b.getD 0 0) (n := n)
        have hr : (rdTell (b.getD 0 0) n b).1.right = false := by
          unfold Tell.right
          rw [if_pos q2, q1, hK]
          rfl
        rw [if_pos (.inr rfl), hr, Bool.and_false]
        rfl
      | true =>
        obtain ⟨t1, t2⟩ := tRd_ok hb (by omega) (fn := b.getD 0 0) (n := n) hK
        rw [if_neg (by rintro (h | h); exact h0 h; cases h)]
        cases hO : tellOk (b.getD 0 0) n (b.drop 1) with
        | false => rw [t2 hO]; rfl
        | true =>
          rcases t1 hO with q | ⟨q1, q2⟩
          · rw [q]
          · rw [q1, q2]; rfl
    rw [e]
    generalize rdTell (b.getD 0 0) n b = R at *
    obtain ⟨a, ok⟩ := R
    simp only at ht hh
    generalize b.getD 0 0 = B0 at *
    cases ok with
    | false =>
      refine FnOk.tree t61 (.a (.b 10 false) (.a (.at [.int .u8 B0]) (.a (.b 15 false) (.f [] hh .nil)))) rfl rfl rfl rfl ?_
      simp [leVs, leP, leE, leEs, leL, leC, g0, h0]
      all_goals (repeat' (first | omega | apply g0' | exact hne | apply And.intro))
    | true =>
      cases hR : a.right with
      | true =>
        rw [hR] at ht
        refine FnOk.tree t61 (.a (.b 10 false) (.a (.at [.int .u8 B0]) (.a (.b 15 false) (.f [] hh (.f [] ht .nil))))) rfl rfl rfl rfl ?_
        simp [leVs, leP, leE, leEs, leL, leC, g0, h0]
        all_goals (repeat' (first | omega | apply g0' | exact hne | apply And.intro))
      | false =>
        rw [hR] at ht
        refine FnOk.tree t61 (.a (.b 10 false) (.a (.at [.int .u8 B0]) (.a (.b 15 false) (.f [] hh (.f [] ht .nil))))) rfl rfl rfl rfl ?_
        simp [leVs, leP, leE, leEs, leL, leC, g0, h0]
        all_goals (repeat' (first | omega | apply g0' | exact hne | apply And.intro))
end Go.Proofs.Ytheaeddojcebjaa
