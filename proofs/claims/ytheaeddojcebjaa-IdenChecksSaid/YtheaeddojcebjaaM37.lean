/-
  Who the device is, out of a reply's bytes.
-/
import Derived.Test.YtheaeddojcebjaaM36
set_option maxRecDepth 100000
set_option maxHeartbeats 4000000
set_option linter.unusedVariables false
set_option linter.unusedSimpArgs false
namespace Go.Proofs.Ytheaeddojcebjaa
open Go.RowKit

theorem tByteK {xs : List Int} {bad : Bool} (hb : Byt xs) (hl : xs.length ≤ 1000000) (k : Nat) : FnOk Try.prog 150 [vC (.ptr 0 0)] [cur (xs.drop k) bad] (vI .i64 (xs.getD k 0)) [cur (xs.drop (k + 1)) (bad || decide (xs.length ≤ k))] := by
  have h := tByte_ok (xs := xs.drop k) (bad := bad) (fun x hx => hb x (List.mem_of_mem_drop hx)) (by rw [List.length_drop]; omega)
  rw [List.drop_drop] at h
  have e1 : (xs.drop k).getD 0 0 = xs.getD k 0 := by simp [List.getD_eq_getElem?_getD]
  have e2 : decide ((xs.drop k).length = 0) = decide (xs.length ≤ k) := decide_eq_decide.2 (by rw [List.length_drop]; omega)
  rw [e1, e2] at h
  exact h
/-- Objects off bytes, what is left, and whether too little was there. -/
def dv : Nat → List Int → Bool → List Obj × List Int × Bool
  | 0, xs, b => ([], xs, b)
  | n + 1, xs, true => ([], xs, true)
  | n + 1, xs, false =>
    ((xs.getD 0 0, bytesOf (sm (xs.getD 1 0) (xs.drop 2))) :: (dv n (sl (xs.getD 1 0) (xs.drop 2)) (false || decide (xs.length ≤ 0) || decide (xs.length ≤ 1) || sb (xs.getD 1 0) (xs.drop 2))).1,
      (dv n (sl (xs.getD 1 0) (xs.drop 2)) (false || decide (xs.length ≤ 0) || decide (xs.length ≤ 1) || sb (xs.getD 1 0) (xs.drop 2))).2)
theorem dv_true (n : Nat) (xs : List Int) : dv n xs true = ([], xs, true) := by cases n <;> rfl
/-- Objects off bytes, as the document tells them. -/
def tv : Nat → List Int → Option (List Obj × List Int)
  | 0, xs => some ([], xs)
  | n + 1, xs => if 2 ≤ xs.length ∧ 2 + xs.getD 1 0 ≤ xs.length then
      match tv n (xs.drop (2 + (xs.getD 1 0).toNat)) with
      | some r => some ((xs.getD 0 0, bytesOf ((xs.drop 2).take (xs.getD 1 0).toNat)) :: r.1, r.2)
      | none => none
    else none
theorem dv_tv : ∀ (n : Nat) {xs : List Int}, Byt xs → match tv n xs with
    | some r => dv n xs false = (r.1, r.2, false)
    | none => (dv n xs false).2.2 = true
  | 0, xs, _ => rfl
  | n + 1, xs, hb => by
    have hx := at_byt hb 1
    by_cases h : 2 ≤ xs.length ∧ 2 + xs.getD 1 0 ≤ xs.length
    · have e1 : sm (xs.getD 1 0) (xs.drop 2) = (xs.drop 2).take (xs.getD 1 0).toNat := if_neg (by rw [List.length_drop]; omega)
      have e2 : sl (xs.getD 1 0) (xs.drop 2) = xs.drop (2 + (xs.getD 1 0).toNat) := (if_neg (by rw [List.length_drop]; omega)).trans (by rw [List.drop_drop])
      have e3 : (false || decide (xs.length ≤ 0) || decide (xs.length ≤ 1) || sb (xs.getD 1 0) (xs.drop 2)) = false := by
        rw [decide_eq_false (by omega), decide_eq_false (by omega)]
        exact decide_eq_false (by rw [List.length_drop]; omega)
      have ih := dv_tv n (xs := xs.drop (2 + (xs.getD 1 0).toNat)) (fun x hx => hb x (List.mem_of_mem_drop hx))
      unfold tv dv
      rw [if_pos h, e1, e2, e3]
      generalize tv n (xs.drop (2 + (xs.getD 1 0).toNat)) = r at *
      cases r with
      | none => exact ih
      | some r => simp only [ih]
    · have e3 : (false || decide (xs.length ≤ 0) || decide (xs.length ≤ 1) || sb (xs.getD 1 0) (xs.drop 2)) = true := by
        by_cases h2 : 2 ≤ xs.length
        · have : sb (xs.getD 1 0) (xs.drop 2) = true := decide_eq_true (by rw [List.length_drop]; omega)
          rw [this]; simp
        · rw [decide_eq_true (show xs.length ≤ 1 by omega)]; simp
      unfold tv dv
      rw [if_neg h, e3, dv_true]
theorem bytesOf_size (l : List Int) : (bytesOf l).size = l.length := by simp [bytesOf, ByteArray.size]
theorem dv_fit : ∀ (n : Nat) {xs : List Int} (b : Bool), Byt xs → (dv n xs b).1.length ≤ n ∧ (∀ o ∈ (dv n xs b).1, b64 o.1 ∧ o.2.size ≤ 1000000) ∧ (dv n xs b).2.1.length ≤ xs.length
  | 0, xs, b, _ => ⟨by simp [dv], fun o h => by simp [dv] at h, by simp [dv]⟩
  | n + 1, xs, true, _ => ⟨by simp [dv], fun o h => by simp [dv] at h, by simp [dv]⟩
  | n + 1, xs, false, hb => by
    have hx0 := at_byt hb 0
    have hx := at_byt hb 1
    have hs : Byt (sl (xs.getD 1 0) (xs.drop 2)) := by
      unfold sl
      split
      · exact fun x hx => hb x (List.mem_of_mem_drop hx)
      · exact fun x hx => hb x (List.mem_of_mem_drop (List.mem_of_mem_drop hx))
    have hsl : (sl (xs.getD 1 0) (xs.drop 2)).length ≤ xs.length := by unfold sl; split <;> simp only [List.length_drop] <;> omega
    have hm : (sm (xs.getD 1 0) (xs.drop 2)).length ≤ 255 := by
      unfold sm; split
      · simp
      · rw [List.length_take]; omega
    obtain ⟨i1, i2, i3⟩ := dv_fit n (false || decide (xs.length ≤ 0) || decide (xs.length ≤ 1) || sb (xs.getD 1 0) (xs.drop 2)) hs
    unfold dv
    refine ⟨?_, ?_, by simp only; omega⟩
    · simp only [List.length_cons]; omega
    · intro o ho
      simp only [List.mem_cons] at ho
      rcases ho with rfl | ho
      · exact ⟨by simp only [b64]; omega, by simp only [bytesOf_size]; omega⟩
      · exact i2 o ho
/-- A reply of which the function is known, nothing else. -/
abbrev t0cs (fn : Int) : List C := [.t (.int .i64 fn), .t (.int .i64 0), .t .nil, .t .nil, .t (.int .i64 0), .t (.int .i64 0), .t (.int .u16 0), .t (.int .u16 0), .t (.int .u16 0), .t (.int .i64 0), .t (.int .i64 0), .t (.bool false), .t (.int .i64 0), .t .nil]
abbrev dcs (cd lv : Int) (mo : Bool) (nx : Int) (o : C) : List C := [.t (.int .i64 43), .t (.int .i64 0), .t .nil, .t .nil, .t (.int .i64 0), .t (.int .i64 0), .t (.int .u16 0), .t (.int .u16 0), .t (.int .u16 0), .t (.int .i64 cd), .t (.int .i64 lv), .t (.bool mo), .t (.int .i64 nx), o]
def dB (xs : List Int) : Bool := false || decide (xs.length ≤ 0) || !(xs.getD 0 0 == 14) || decide (xs.length ≤ 1) || decide (xs.length ≤ 2) || decide (xs.length ≤ 3) || !(decide (xs.getD 3 0 = 0 ∨ xs.getD 3 0 = 255)) || decide (xs.length ≤ 4) || decide (xs.length ≤ 5)
theorem tDevice_ok {xs : List Int} (hb : Byt xs) (hl : xs.length ≤ 1000000) : FnOk Try.prog 141 [vC (.ptr 0 0), .e (.agg (t0cs 43))] [cur xs false]
    (.e (.agg (dcs (xs.getD 1 0) (xs.getD 2 0) (xs.getD 3 0 == 255) (xs.getD 4 0) (.t (lO (dv (xs.getD 5 0).toNat (xs.drop 6) (dB xs)).1))))) [cur (dv (xs.getD 5 0).toNat (xs.drop 6) (dB xs)).2.1 (dv (xs.getD 5 0).toNat (xs.drop 6) (dB xs)).2.2] := by
  have h0 := tByteK (bad := false) hb hl 0
  rw [List.drop_zero] at h0
  have hm0 := tMust_ok (xs := xs.drop 1) (bad := false || decide (xs.length ≤ 0)) (ok := (xs.getD 0 0 == 14))
  generalize hB0 : (false || decide (xs.length ≤ 0)) = B0 at *
  generalize hB1 : (B0 || !(xs.getD 0 0 == 14)) = B1 at *
  have h1 := tByteK (bad := B1) hb hl 1
  generalize hB2 : (B1 || decide (xs.length ≤ 1)) = B2 at *
  have h2 := tByteK (bad := B2) hb hl 2
  generalize hB3 : (B2 || decide (xs.length ≤ 2)) = B3 at *
  have h3 := tByteK (bad := B3) hb hl 3
  generalize hB4 : (B3 || decide (xs.length ≤ 3)) = B4 at *
  have hB5' : ∃ B5, B5 = (B4 || !decide (xs.getD 3 0 = 0 ∨ xs.getD 3 0 = 255)) := ⟨_, rfl⟩
  obtain ⟨B5, hB5⟩ := hB5'
  have h4 := tByteK (bad := B5) hb hl 4
  generalize hB6 : (B5 || decide (xs.length ≤ 4)) = B6 at *
  have h5 := tByteK (bad := B6) hb hl 5
  generalize hB7 : (B6 || decide (xs.length ≤ 5)) = B7 at *
  have hdB : dB xs = B7 := by
    unfold dB
    rw [hB0, hB1, hB2, hB3, hB4, ← hB5, hB6, hB7]
  rw [hdB]
  have hx5 := at_byt hb 5
  simp only [Nat.reduceAdd] at h0 h1 h2 h3 h4 h5
  refine FnOk.start t141 rfl rfl rfl ?_
  refine Tri.seq (Tri.go [] rfl (by simp) ?_)
  refine Tri.seq (Tri.go [.call [0] [] (vI .i64 (xs.getD 0 0)) [cur (xs.drop 1) B0], .call [0] [] (.tup []) [cur (xs.drop 1) B1]] rfl ?_ ?_)
  · exact ⟨trivial, h0, trivial, hm0, trivial⟩
  refine Tri.seq (Tri.go [.call [0] [] (vI .i64 (xs.getD 1 0)) [cur (xs.drop 2) B2]] rfl ?_ ?_)
  · simp only [true_and, and_true]
    exact h1
  refine Tri.seq (Tri.go [.call [0] [] (vI .i64 (xs.getD 2 0)) [cur (xs.drop 3) B3]] rfl ?_ ?_)
  · simp only [true_and, and_true]
    exact h2
  refine Tri.seq (Tri.go [.call [0] [] (vI .i64 (xs.getD 3 0)) [cur (xs.drop 4) B4]] rfl ?_ ?_)
  · exact ⟨trivial, h3, trivial⟩
  refine Tri.mid (fun ρ hl => hl = [cur (xs.drop 4) B5, .box (dcs (xs.getD 1 0) (xs.getD 2 0) false 0 (.t .nil)), .box (t0cs 0)] ∧ keepE ρ [0, 3, 4, 5] = some [(0, vC (.ptr 0 0)), (3, vC (.ptr 1 0)), (4, vC (.ptr 2 0)), (5, vI .i64 (xs.getD 3 0))]) ?_ ?_
  · by_cases q : xs.getD 3 0 = 0
    · have hm := tMust_ok (xs := xs.drop 4) (bad := B4) (ok := true)
      have e : B5 = (B4 || !true) := by rw [hB5, decide_eq_true (.inl q)]
      rw [← e] at hm
      refine Tri.go [.b 25 true, .call [0] [] (.tup []) [cur (xs.drop 4) B5]] rfl ?_ ⟨rfl, keep_of rfl rfl⟩
      simp only [true_and, and_true]
      exact ⟨by rw [beq_iff_eq]; exact q, hm⟩
    · have hm := tMust_ok (xs := xs.drop 4) (bad := B4) (ok := (xs.getD 3 0 == 255))
      have e : B5 = (B4 || !(xs.getD 3 0 == 255)) := by
        rw [hB5]
        congr 2
        rw [Bool.eq_iff_iff, decide_eq_true_iff, beq_iff_eq]
        omega
      rw [← e] at hm
      refine Tri.go [.b 25 false, .call [0] [] (.tup []) [cur (xs.drop 4) B5]] rfl ?_ ⟨rfl, keep_of rfl rfl⟩
      simp only [true_and, and_true]
      exact ⟨by rw [beq_eq_false_iff_ne]; exact q, hm⟩
  rintro ρ hl' ⟨rfl, hkk⟩
  refine Tri.keep _ hkk ?_
  refine Tri.seq (Tri.go [] rfl (by simp) ?_)
  refine Tri.seq (Tri.go [.call [0] [] (vI .i64 (xs.getD 4 0)) [cur (xs.drop 5) B6]] rfl ?_ ?_)
  · simp only [true_and, and_true]
    exact h4
  refine Tri.seq (Tri.seq (Tri.go [.call [0] [] (vI .i64 (xs.getD 5 0)) [cur (xs.drop 6) B7]] rfl ⟨trivial, h5, trivial⟩ ?_))
  have hzb : Byt (xs.drop 6) := fun x hx => hb x (List.mem_of_mem_drop hx)
  have hzl : (xs.drop 6).length ≤ 1000000 := by rw [List.length_drop]; omega
  generalize xs.drop 6 = zs at *
  obtain ⟨c, hc⟩ : ∃ c : Nat, xs.getD 5 0 = c := Int.eq_ofNat_of_zero_le hx5.1
  have hcb : c ≤ 255 := by omega
  rw [hc, Int.toNat_natCast] at *
  generalize hT : dv c zs B7 = T at *
  refine Tri.block ?_
  refine Tri.lp (fun m ρ hl => ∃ ys b acc, Byt ys ∧ ys.length ≤ 1000000 ∧ m ≤ 255 ∧ acc.length + m ≤ 255 ∧ (acc ++ (dv m ys b).1, (dv m ys b).2) = T ∧
    ((acc = [] ∧ hl = [cur ys b, .box (dcs (xs.getD 1 0) (xs.getD 2 0) (xs.getD 3 0 == 255) (xs.getD 4 0) (.t .nil)), .box (t0cs 0)]) ∨
     (acc ≠ [] ∧ hl = [cur ys b, .box (dcs (xs.getD 1 0) (xs.getD 2 0) (xs.getD 3 0 == 255) (xs.getD 4 0) (.sl 3 0 acc.length)), .box (t0cs 0), .arr 2 (oRows acc)])) ∧
    keepE ρ [0, 3, 4, 6] = some [(0, vC (.ptr 0 0)), (3, vC (.ptr 1 0)), (4, vC (.ptr 2 0)), (6, vI .i64 m)]) c ⟨zs, B7, [], hzb, hzl, by omega, by simp; omega, by simpa using hT, .inl ⟨rfl, rfl⟩, keep_of rfl rfl⟩ ?_
  rintro m ρ hl' ⟨ys, b, acc, hyb, hyl, hm, ha, he, hh, hkk⟩
  refine Tri.keep _ hkk ?_
  cases m with
  | zero =>
    rw [show dv 0 ys b = ([], ys, b) from rfl] at he
    subst he
    simp only [List.append_nil]
    rcases hh with ⟨rfl, rfl⟩ | ⟨hne, rfl⟩
    · refine Tri.go [.b 40 false] rfl ⟨by simp, trivial⟩ (outQ ?_)
      refine Tri.go [] rfl (by simp) (RetQ.of [0] [] rfl ⟨trivial, trivial⟩ ?_ rfl)
      exact .e (.agg (by repeat (first | exact LeCs.nil | refine LeCs.cons (.refl _) ?_ | refine LeCs.cons (.t (.nil 2)) ?_)))
    · refine Tri.go [.b 40 false] rfl ⟨by simp, trivial⟩ (outQ ?_)
      refine Tri.go [] rfl (by simp) (RetQ.of [0] [3] rfl ?_ ?_ rfl)
      · simp
      · exact .refl _
  | succ k =>
  cases b with
  | true =>
    rw [dv_true] at he
    subst he
    simp only [List.append_nil]
    rcases hh with ⟨rfl, rfl⟩ | ⟨hne, rfl⟩
    · refine Tri.go [.b 40 true] rfl ⟨by simp, trivial⟩ (outQ ?_)
      refine Tri.go [] rfl (by simp) (RetQ.of [0] [] rfl ⟨trivial, trivial⟩ ?_ rfl)
      exact .e (.agg (by repeat (first | exact LeCs.nil | refine LeCs.cons (.refl _) ?_ | refine LeCs.cons (.t (.nil 2)) ?_)))
    · refine Tri.go [.b 40 true] rfl ⟨by simp, trivial⟩ (outQ ?_)
      refine Tri.go [] rfl (by simp) (RetQ.of [0] [3] rfl ?_ ?_ rfl)
      · simp
      · exact .refl _
  | false =>
    have y0 := at_byt hyb 0
    have y1 := at_byt hyb 1
    have f0 := tByteK (bad := false) hyb hyl 0
    rw [List.drop_zero] at f0
    generalize hC0 : (false || decide (ys.length ≤ 0)) = C0 at *
    have f1 := tByteK (bad := C0) hyb hyl 1
    generalize hC1 : (C0 || decide (ys.length ≤ 1)) = C1 at *
    have f2 := tSome_ok (xs := ys.drop 2) (bad := C1) (n := ys.getD 1 0) (by rw [List.length_drop]; omega) y1
    simp only [Nat.reduceAdd] at f0 f1
    have hs : Byt (sl (ys.getD 1 0) (ys.drop 2)) := by
      unfold sl
      split
      · exact fun x hx => hyb x (List.mem_of_mem_drop hx)
      · exact fun x hx => hyb x (List.mem_of_mem_drop (List.mem_of_mem_drop hx))
    have hsl : (sl (ys.getD 1 0) (ys.drop 2)).length ≤ ys.length := by unfold sl; split <;> simp only [List.length_drop] <;> omega
    unfold dv at he
    rw [hC0, hC1] at he
    generalize hS : sm (ys.getD 1 0) (ys.drop 2) = S at *
    generalize hR : sl (ys.getD 1 0) (ys.drop 2) = R at *
    generalize hC2 : (C1 || sb (ys.getD 1 0) (ys.drop 2)) = C2 at *
    have he' : ((acc ++ [(ys.getD 0 0, bytesOf S)]) ++ (dv k R C2).1, (dv k R C2).2) = T := by rw [← he]; simp
    have hacc : (acc ++ [(ys.getD 0 0, bytesOf S)]).length = acc.length + 1 := by simp
    have hrow : oRows acc ++ [[.int .i64 (ys.getD 0 0), .str (bytesOf S)]] = oRows (acc ++ [(ys.getD 0 0, bytesOf S)]) := by simp [oRows]
    have hne' : acc ++ [(ys.getD 0 0, bytesOf S)] ≠ [] := by simp
    have hstep : List.take S.length (rI .u8 S) = S.map (fun n => [D.int .u8 n]) := by
      rw [rI_take, List.take_length]; rfl
    have hlenS : (rI .u8 S).length = S.length := by simp
    rcases hh with ⟨rfl, rfl⟩ | ⟨hne, rfl⟩
    · refine Tri.seq (Tri.go [.b 40 true] rfl ⟨by simp, trivial⟩ ?_)
      refine Tri.seq (Tri.block ?_)
      refine Tri.go [.call [0] [] (vI .i64 (ys.getD 0 0)) [cur (ys.drop 1) C0], .call [0] [] (vI .i64 (ys.getD 1 0)) [cur (ys.drop 2) C1], .call [0] [] (vBy S) [cur R C2], .tx S] rfl ⟨trivial, f0, trivial, f1, trivial, f2, ⟨.inr rfl, by omega, hstep⟩, ⟨⟨rfl, by simp⟩, trivial⟩, ⟨.inr rfl, by simp, by omega, by omega⟩, trivial⟩ ?_
      refine Tri.let [0, 1, 2, 3] [] [0, 3, 4, 6] rfl trivial ?_
      refine Tri.go [] rfl ⟨by omega, trivial⟩ (again k (by omega) ⟨R, C2, [] ++ [(ys.getD 0 0, bytesOf S)], hs, by omega, by omega, by rw [hacc]; omega, he', .inr ⟨hne', ?_⟩, keep_of rfl (by simp)⟩)
      rfl
    · refine Tri.seq (Tri.go [.b 40 true] rfl ⟨by simp, trivial⟩ ?_)
      refine Tri.seq (Tri.block ?_)
      refine Tri.go [.call [0] [] (vI .i64 (ys.getD 0 0)) [cur (ys.drop 1) C0], .call [0] [] (vI .i64 (ys.getD 1 0)) [cur (ys.drop 2) C1], .call [0] [] (vBy S) [cur R C2], .tx S] rfl ⟨trivial, f0, trivial, f1, trivial, f2, ⟨.inr rfl, by omega, hstep⟩, ⟨⟨rfl, by simp⟩, trivial⟩, ⟨.inr rfl, rfl, by simp, by simp, by omega, by omega⟩, trivial⟩ ?_
      refine Tri.let [0, 1, 2, 4] [] [0, 3, 4, 6] rfl trivial ?_
      refine Tri.go [] rfl ⟨by omega, trivial⟩ (again k (by omega) ⟨R, C2, acc ++ [(ys.getD 0 0, bytesOf S)], hs, by omega, by omega, by rw [hacc]; omega, he', .inr ⟨hne', ?_⟩, keep_of rfl (by simp)⟩)
      rw [← hrow, hacc]
      rfl
end Go.Proofs.Ytheaeddojcebjaa
