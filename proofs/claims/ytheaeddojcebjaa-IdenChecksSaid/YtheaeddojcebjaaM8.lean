/-
  The fields of a request, out of what stands behind its function.
-/
import Derived.Test.YtheaeddojcebjaaM7
set_option maxRecDepth 100000
set_option maxHeartbeats 4000000
set_option linter.unusedVariables false
set_option linter.unusedSimpArgs false
namespace Go.Proofs.Ytheaeddojcebjaa
open Go.RowKit

/-- May what stands behind the function be a request's fields? -/
def askOk (fn : Int) (xs : List Int) : Bool :=
  if fn = 1 ∨ fn = 2 ∨ fn = 3 ∨ fn = 4 ∨ fn = 6 then decide (xs.length = 4)
  else if fn = 5 then decide (xs.length = 4 ∧ (wAt xs 2 = 0 ∨ wAt xs 2 = 65280))
  else if fn = 15 then decide (5 ≤ xs.length) && coilsOk (xs.drop 4) (wAt xs 2)
  else if fn = 22 then decide (xs.length = 6)
  else if fn = 16 then decide (5 ≤ xs.length) && wordsOk (xs.drop 4) (wAt xs 2).toNat
  else if fn = 23 then decide (9 ≤ xs.length) && wordsOk (xs.drop 8) (wAt xs 6).toNat
  else decide (xs.length = 3)
def askOf (fn : Int) (xs : List Int) : Ask :=
  if fn = 1 ∨ fn = 2 ∨ fn = 3 ∨ fn = 4 then { fn := fn, at_ := wAt xs 0, n := wAt xs 2 }
  else if fn = 5 then { fn := fn, at_ := wAt xs 0, val := wAt xs 2 / 65280 }
  else if fn = 6 then { fn := fn, at_ := wAt xs 0, val := wAt xs 2 }
  else if fn = 15 then { fn := fn, at_ := wAt xs 0, n := wAt xs 2, bits := unpackL (xs.drop 5) (wAt xs 2).toNat }
  else if fn = 22 then { fn := fn, at_ := wAt xs 0, and_ := wAt xs 2, or_ := wAt xs 4 }
  else if fn = 16 then { fn := fn, at_ := wAt xs 0, n := wAt xs 2, words := wsOf (xs.drop 5) (wAt xs 2).toNat }
  else if fn = 23 then { fn := fn, ra := wAt xs 0, rn := wAt xs 2, at_ := wAt xs 4, n := wAt xs 6, words := wsOf (xs.drop 9) (wAt xs 6).toNat }
  else { fn := fn, code := xs.getD 1 0, obj := xs.getD 2 0 }
/-- What the cursor gives for a function. -/
def FieldsOk (fn : Int) (xs : List Int) : Prop := ∃ a ys bad, a.Fit ∧ ((bad = false ∧ ys = []) ↔ askOk fn xs = true) ∧ (askOk fn xs = true → a = askOf fn xs) ∧
  FnOk Try.prog 77 [vC (.ptr 0 0), vI .i64 fn] [cur xs false] a.v [cur ys bad]
theorem cl2 {xs : List Int} (h : xs.length = 4) : cl (cl xs) = [] ∧ cw xs = wAt xs 0 ∧ cw (cl xs) = wAt xs 2 := by
  have h2 : cl xs = xs.drop 2 := if_pos (by omega)
  have h3 : (xs.drop 2).length = 2 := by simp; omega
  refine ⟨?_, if_pos (by omega), ?_⟩
  · rw [h2]; unfold cl; rw [if_pos (by omega)]; simp; omega
  · rw [h2]; unfold cw; rw [if_pos (by omega), wAt_drop]
theorem good2 (xs : List Int) : ((false || cb xs || cb (cl xs)) = false ∧ cl (cl xs) = []) ↔ xs.length = 4 := by
  constructor
  · rintro ⟨h1, h2⟩
    simp only [cb, Bool.false_or, Bool.or_eq_false_iff, decide_eq_false_iff_not] at h1
    have h3 : cl xs = xs.drop 2 := if_pos (by omega)
    rw [h3] at h1 h2
    simp only [List.length_drop] at h1
    unfold cl at h2
    rw [if_pos (by simp; omega)] at h2
    have := congrArg List.length h2
    simp at this
    omega
  · intro h
    have h3 : cl xs = xs.drop 2 := if_pos (by omega)
    refine ⟨?_, (cl2 h).1⟩
    rw [h3]
    simp [cb]
    omega
theorem fitA {a : Ask} (h1 : b64 a.fn) (h2 : b64 a.at_) (h3 : b64 a.n) (h4 : 0 ≤ a.val ∧ a.val ≤ 65535) (h5 : 0 ≤ a.and_ ∧ a.and_ ≤ 65535) (h6 : 0 ≤ a.or_ ∧ a.or_ ≤ 65535) (h7 : a.bits.length ≤ 1000000000000) (h8 : a.words.length ≤ 1000000000000) (h9 : Wrd a.words) (h10 : b64 a.ra) (h11 : b64 a.rn) (h12 : b64 a.code) (h13 : b64 a.obj) : a.Fit :=
  ⟨h1, h2, h3, h4, h5, h6, h7, h8, h9, h10, h11, h12, h13⟩
theorem wrd_nil : Wrd [] := fun x hx => (nomatch hx)
theorem fieldsR {fn : Int} (hfn : fn = 1 ∨ fn = 2 ∨ fn = 3 ∨ fn = 4) {xs : List Int} (hb : Byt xs) (hl : xs.length ≤ 1000) : FieldsOk fn xs := by
  have w1 := cw_rng hb
  have w2 := cw_rng (cl_byt hb)
  have l1 := cl_len xs
  have c1 := curPlace_ok (bad := false) hb (by omega)
  have c2 := curPlace_ok (bad := false || cb xs) (cl_byt hb) (by omega)
  have ok : askOk fn xs = decide (xs.length = 4) := by unfold askOk; rw [if_pos (by omega)]
  have of : askOf fn xs = { fn := fn, at_ := wAt xs 0, n := wAt xs 2 } := by unfold askOf; rw [if_pos hfn]
  refine ⟨{ fn := fn, at_ := cw xs, n := cw (cl xs) }, cl (cl xs), false || cb xs || cb (cl xs), fitA (by simp [b64]; omega) (by simp [b64]; omega) (by simp [b64]; omega) (by simp) (by simp) (by simp) (by simp) (by simp) wrd_nil (by simp [b64]) (by simp [b64]) (by simp [b64]) (by simp [b64]), ?_, ?_, ?_⟩
  · rw [good2, ok, decide_eq_true_iff]
  · intro h
    rw [ok] at h
    obtain ⟨e1, e2, e3⟩ := cl2 (of_decide_eq_true h)
    rw [of, e2, e3]
  · rcases hfn with rfl | rfl | rfl | rfl
    all_goals
      refine FnOk.go t77 [.call [0] [] (vI .i64 (cw xs)) [cur (cl xs) (false || cb xs)], .call [0] [] (vI .i64 (cw (cl xs))) [cur (cl (cl xs)) (false || cb xs || cb (cl xs))]] [0] [] rfl rfl rfl rfl rfl rfl rfl ⟨trivial, c1, trivial, c2, trivial⟩ (by simp) ?_
      refine .e (.agg ?_)
      repeat (first | exact LeCs.nil | refine LeCs.cons (.refl _) ?_ | refine LeCs.cons leF ?_ | refine LeCs.cons leI ?_)
theorem fields6 {xs : List Int} (hb : Byt xs) (hl : xs.length ≤ 1000) : FieldsOk 6 xs := by
  have w1 := cw_rng hb
  have w2 := cw_rng (cl_byt hb)
  have l1 := cl_len xs
  have c1 := curPlace_ok (bad := false) hb (by omega)
  have c2 := curWord_ok (bad := false || cb xs) (cl_byt hb) (by omega)
  have ok : askOk 6 xs = decide (xs.length = 4) := by simp [askOk]
  have of : askOf 6 xs = { fn := 6, at_ := wAt xs 0, val := wAt xs 2 } := by simp [askOf]
  refine ⟨{ fn := 6, at_ := cw xs, val := cw (cl xs) }, cl (cl xs), false || cb xs || cb (cl xs), fitA (by simp [b64]) (by simp [b64]; omega) (by simp [b64]) w2 (by simp) (by simp) (by simp) (by simp) wrd_nil (by simp [b64]) (by simp [b64]) (by simp [b64]) (by simp [b64]), ?_, ?_, ?_⟩
  · rw [good2, ok, decide_eq_true_iff]
  · intro h
    rw [ok] at h
    obtain ⟨e1, e2, e3⟩ := cl2 (of_decide_eq_true h)
    rw [of, e2, e3]
  · refine FnOk.go t77 [.call [0] [] (vI .i64 (cw xs)) [cur (cl xs) (false || cb xs)], .call [0] [] (vI .u16 (cw (cl xs))) [cur (cl (cl xs)) (false || cb xs || cb (cl xs))]] [0] [] rfl rfl rfl rfl rfl rfl rfl ⟨trivial, c1, trivial, c2, trivial⟩ (by simp) ?_
    refine .e (.agg ?_)
    repeat (first | exact LeCs.nil | refine LeCs.cons (.refl _) ?_ | refine LeCs.cons leF ?_ | refine LeCs.cons leI ?_)
theorem fields5 {xs : List Int} (hb : Byt xs) (hl : xs.length ≤ 1000) : FieldsOk 5 xs := by
  have w1 := cw_rng hb
  have w2 := cw_rng (cl_byt hb)
  have l1 := cl_len xs
  have c1 := curPlace_ok (bad := false) hb (by omega)
  have c2 := curCoil_ok (bad := false || cb xs) (cl_byt hb) (by omega)
  have ok : askOk 5 xs = decide (xs.length = 4 ∧ (wAt xs 2 = 0 ∨ wAt xs 2 = 65280)) := by simp [askOk]
  have of : askOf 5 xs = { fn := 5, at_ := wAt xs 0, val := wAt xs 2 / 65280 } := by simp [askOf]
  refine ⟨{ fn := 5, at_ := cw xs, val := cw (cl xs) / 65280 }, cl (cl xs), false || cb xs || cb (cl xs) || decide (cw (cl xs) ≠ 0 ∧ cw (cl xs) ≠ 65280), fitA (by simp [b64]) (by simp [b64]; omega) (by simp [b64]) (by simp; omega) (by simp) (by simp) (by simp) (by simp) wrd_nil (by simp [b64]) (by simp [b64]) (by simp [b64]) (by simp [b64]), ?_, ?_, ?_⟩
  · rw [ok, decide_eq_true_iff, Bool.or_eq_false_iff]
    constructor
    · rintro ⟨⟨h1, h2⟩, h3⟩
      have h4 := (good2 xs).1 ⟨h1, h3⟩
      obtain ⟨e1, e2, e3⟩ := cl2 h4
      rw [e3] at h2
      exact ⟨h4, by have := of_decide_eq_false h2; omega⟩
    · rintro ⟨h1, h2⟩
      obtain ⟨e1, e2, e3⟩ := cl2 h1
      have h4 := (good2 xs).2 h1
      refine ⟨⟨h4.1, ?_⟩, h4.2⟩
      rw [e3]
      exact decide_eq_false (by omega)
  · intro h
    rw [ok] at h
    obtain ⟨e1, e2, e3⟩ := cl2 (of_decide_eq_true h).1
    rw [of, e2, e3]
  · refine FnOk.go t77 [.call [0] [] (vI .i64 (cw xs)) [cur (cl xs) (false || cb xs)], .call [0] [] (vI .u16 (cw (cl xs) / 65280)) [cur (cl (cl xs)) (false || cb xs || cb (cl xs) || decide (cw (cl xs) ≠ 0 ∧ cw (cl xs) ≠ 65280))]] [0] [] rfl rfl rfl rfl rfl rfl rfl ⟨trivial, c1, trivial, c2, trivial⟩ (by simp) ?_
    refine .e (.agg ?_)
    repeat (first | exact LeCs.nil | refine LeCs.cons (.refl _) ?_ | refine LeCs.cons leF ?_ | refine LeCs.cons leI ?_)
theorem cl3 {xs : List Int} (h : xs.length = 6) : cl (cl (cl xs)) = [] ∧ cw xs = wAt xs 0 ∧ cw (cl xs) = wAt xs 2 ∧ cw (cl (cl xs)) = wAt xs 4 := by
  have h2 : cl xs = xs.drop 2 := if_pos (by omega)
  have h3 : (xs.drop 2).length = 4 := by simp; omega
  obtain ⟨e1, e2, e3⟩ := cl2 h3
  rw [h2]
  refine ⟨?_, if_pos (by omega), ?_, ?_⟩
  · have h4 : cl (xs.drop 2) = xs.drop 4 := by unfold cl; rw [if_pos (by omega), List.drop_drop]
    rw [h4]; unfold cl; rw [if_pos (by simp; omega), List.drop_drop]; exact List.drop_eq_nil_of_le (by omega)
  · rw [e2, wAt_drop]
  · rw [e3]
    simp [wAt, List.getD_eq_getElem?_getD]
theorem good3 (xs : List Int) : ((false || cb xs || cb (cl xs) || cb (cl (cl xs))) = false ∧ cl (cl (cl xs)) = []) ↔ xs.length = 6 := by
  constructor
  · rintro ⟨h1, h2⟩
    simp only [cb, Bool.false_or, Bool.or_eq_false_iff, decide_eq_false_iff_not] at h1
    have h3 : cl xs = xs.drop 2 := if_pos (by omega)
    rw [h3] at h1 h2
    have h4 : cl (xs.drop 2) = xs.drop 4 := by unfold cl; rw [if_pos (by omega), List.drop_drop]
    rw [h4] at h1 h2
    have h5 : cl (xs.drop 4) = xs.drop 6 := by unfold cl; rw [if_pos (by omega), List.drop_drop]
    rw [h5] at h2
    have := congrArg List.length h2
    simp at this h1
    omega
  · intro h
    have h3 : cl xs = xs.drop 2 := if_pos (by omega)
    have h4 : cl (xs.drop 2) = xs.drop 4 := by unfold cl; rw [if_pos (by simp; omega), List.drop_drop]
    refine ⟨?_, (cl3 h).1⟩
    rw [h3, h4]
    simp [cb]
    omega
theorem fields22 {xs : List Int} (hb : Byt xs) (hl : xs.length ≤ 1000) : FieldsOk 22 xs := by
  have w1 := cw_rng hb
  have w2 := cw_rng (cl_byt hb)
  have w3 := cw_rng (cl_byt (cl_byt hb))
  have l1 := cl_len xs
  have l2 := cl_len (cl xs)
  have c1 := curPlace_ok (bad := false) hb (by omega)
  have c2 := curWord_ok (bad := false || cb xs) (cl_byt hb) (by omega)
  have c3 := curWord_ok (bad := false || cb xs || cb (cl xs)) (cl_byt (cl_byt hb)) (by omega)
  have ok : askOk 22 xs = decide (xs.length = 6) := by simp [askOk]
  have of : askOf 22 xs = { fn := 22, at_ := wAt xs 0, and_ := wAt xs 2, or_ := wAt xs 4 } := by simp [askOf]
  refine ⟨{ fn := 22, at_ := cw xs, and_ := cw (cl xs), or_ := cw (cl (cl xs)) }, cl (cl (cl xs)), false || cb xs || cb (cl xs) || cb (cl (cl xs)), fitA (by simp [b64]) (by simp [b64]; omega) (by simp [b64]) (by simp) w2 w3 (by simp) (by simp) wrd_nil (by simp [b64]) (by simp [b64]) (by simp [b64]) (by simp [b64]), ?_, ?_, ?_⟩
  · rw [good3, ok, decide_eq_true_iff]
  · intro h
    rw [ok] at h
    obtain ⟨e1, e2, e3, e4⟩ := cl3 (of_decide_eq_true h)
    rw [of, e2, e3, e4]
  · refine FnOk.go t77 [.call [0] [] (vI .i64 (cw xs)) [cur (cl xs) (false || cb xs)], .call [0] [] (vI .u16 (cw (cl xs))) [cur (cl (cl xs)) (false || cb xs || cb (cl xs))], .call [0] [] (vI .u16 (cw (cl (cl xs)))) [cur (cl (cl (cl xs))) (false || cb xs || cb (cl xs) || cb (cl (cl xs)))]] [0] [] rfl rfl rfl rfl rfl rfl rfl ⟨trivial, c1, trivial, c2, trivial, c3, trivial⟩ (by simp) ?_
    refine .e (.agg ?_)
    repeat (first | exact LeCs.nil | refine LeCs.cons (.refl _) ?_ | refine LeCs.cons leF ?_ | refine LeCs.cons leI ?_)
theorem fields43 {xs : List Int} (hb : Byt xs) (hl : xs.length ≤ 1000) : FieldsOk 43 xs := by
  have hd : ∀ k, Byt (xs.drop k) := fun k x hx => hb x (List.mem_of_mem_drop hx)
  have c1 := curByte_ok (bad := false) hb
  have c2 := curByte_ok (bad := false || decide (xs.length = 0)) (hd 1)
  have c3 := curByte_ok (bad := false || decide (xs.length = 0) || decide ((xs.drop 1).length = 0)) (hd 2)
  have g2 : (xs.drop 1).getD 0 0 = xs.getD 1 0 := by simp [List.getD_eq_getElem?_getD]
  have g3 : (xs.drop 2).getD 0 0 = xs.getD 2 0 := by simp [List.getD_eq_getElem?_getD]
  have b2 := at_byt hb 1
  have b3 := at_byt hb 2
  rw [g2, List.drop_drop] at c2
  rw [g3, List.drop_drop] at c3
  have ok : askOk 43 xs = decide (xs.length = 3) := by simp [askOk]
  have of : askOf 43 xs = { fn := 43, code := xs.getD 1 0, obj := xs.getD 2 0 } := by simp [askOf]
  refine ⟨{ fn := 43, code := xs.getD 1 0, obj := xs.getD 2 0 }, xs.drop 3, false || decide (xs.length = 0) || decide ((xs.drop 1).length = 0) || decide ((xs.drop 2).length = 0), fitA (by simp [b64]) (by simp [b64]) (by simp [b64]) (by simp) (by simp) (by simp) (by simp) (by simp) wrd_nil (by simp [b64]) (by simp [b64]) (by show b64 (xs.getD 1 0); omega) (by show b64 (xs.getD 2 0); omega), ?_, ?_, ?_⟩
  · rw [ok, decide_eq_true_iff]
    constructor
    · rintro ⟨h1, h2⟩
      have := congrArg List.length h2
      simp at this h1
      omega
    · intro h
      refine ⟨by simp [h], List.drop_eq_nil_of_le (by omega)⟩
  · intro _
    rw [of]
  · refine FnOk.go t77 [.call [0] [] (vI .i64 (xs.getD 0 0)) [cur (xs.drop 1) (false || decide (xs.length = 0))], .call [0] [] (vI .i64 (xs.getD 1 0)) [cur (xs.drop 2) (false || decide (xs.length = 0) || decide ((xs.drop 1).length = 0))], .call [0] [] (vI .i64 (xs.getD 2 0)) [cur (xs.drop 3) (false || decide (xs.length = 0) || decide ((xs.drop 1).length = 0) || decide ((xs.drop 2).length = 0))]] [0] [] rfl rfl rfl rfl rfl rfl rfl ⟨trivial, c1, trivial, c2, trivial, c3, trivial⟩ (by simp) ?_
    refine .e (.agg ?_)
    repeat (first | exact LeCs.nil | refine LeCs.cons (.refl _) ?_ | refine LeCs.cons leF ?_ | refine LeCs.cons leI ?_)
theorem chain2 {xs : List Int} (h : 4 ≤ xs.length) : cl (cl xs) = xs.drop 4 ∧ cw xs = wAt xs 0 ∧ cw (cl xs) = wAt xs 2 := by
  have h2 : cl xs = xs.drop 2 := if_pos (by omega)
  have h3 : 2 ≤ (xs.drop 2).length := by simp; omega
  refine ⟨?_, if_pos (by omega), ?_⟩
  · rw [h2]; unfold cl; rw [if_pos h3, List.drop_drop]
  · rw [h2]; unfold cw; rw [if_pos h3, wAt_drop]
theorem bad2 (xs : List Int) : (false || cb xs || cb (cl xs)) = false ↔ 4 ≤ xs.length := by
  constructor
  · intro h1
    simp only [cb, Bool.false_or, Bool.or_eq_false_iff, decide_eq_false_iff_not] at h1
    have h3 : cl xs = xs.drop 2 := if_pos (by omega)
    rw [h3] at h1
    simp at h1
    omega
  · intro h
    have h3 : cl xs = xs.drop 2 := if_pos (by omega)
    rw [h3]
    simp [cb]
    omega
theorem fields15 {xs : List Int} (hb : Byt xs) (hl : xs.length ≤ 1000) : FieldsOk 15 xs := by
  have w1 := cw_rng hb
  have w2 := cw_rng (cl_byt hb)
  have l1 := cl_len xs
  have l2 := cl_len (cl xs)
  have c1 := curPlace_ok (bad := false) hb (by omega)
  have c2 := curPlace_ok (bad := false || cb xs) (cl_byt hb) (by omega)
  obtain ⟨ys, bd, hy, hbd, c3⟩ := curCoils_ok (bad := false || cb xs || cb (cl xs)) (n := cw (cl xs)) (cl_byt (cl_byt hb)) (by omega) (by omega)
  have ok : askOk 15 xs = (decide (5 ≤ xs.length) && coilsOk (xs.drop 4) (wAt xs 2)) := by simp [askOk]
  have of : askOf 15 xs = { fn := 15, at_ := wAt xs 0, n := wAt xs 2, bits := unpackL (xs.drop 5) (wAt xs 2).toNat } := by simp [askOf]
  refine ⟨{ fn := 15, at_ := cw xs, n := cw (cl xs), bits := if coilsOk (cl (cl xs)) (cw (cl xs)) then unpackL ((cl (cl xs)).drop 1) (cw (cl xs)).toNat else [] }, ys, bd, fitA (by simp [b64]) (by simp [b64]; omega) (by simp [b64]; omega) (by simp) (by simp) (by simp) ?_ (by simp) wrd_nil (by simp [b64]) (by simp [b64]) (by simp [b64]) (by simp [b64]), ?_, ?_, ?_⟩
  · show (if _ then _ else _ : List Bool).length ≤ _
    split
    · rw [unpackL_len]; omega
    · simp
  · have e : (bd = false ∧ ys = []) ↔ bd = false := ⟨fun h => h.1, fun h => ⟨h, by rcases hy with h' | h'; exact h'; rw [h] at h'; cases h'⟩⟩
    rw [e, hbd, ok, Bool.or_eq_false_iff, Bool.or_eq_false_iff, bad2, Bool.and_eq_true, decide_eq_true_iff]
    constructor
    · rintro ⟨⟨h1, h2⟩, h3⟩
      obtain ⟨e1, e2, e3⟩ := chain2 h1
      rw [e1, e3] at h3
      rw [e1] at h2
      have h4 := of_decide_eq_false h2
      simp at h4
      exact ⟨by omega, by simpa using h3⟩
    · rintro ⟨h1, h2⟩
      obtain ⟨e1, e2, e3⟩ := chain2 (xs := xs) (by omega)
      rw [e1, e3, h2]
      exact ⟨⟨by omega, decide_eq_false (by simp; omega)⟩, rfl⟩
  · intro h
    rw [ok, Bool.and_eq_true, decide_eq_true_iff] at h
    obtain ⟨e1, e2, e3⟩ := chain2 (xs := xs) (by omega)
    rw [of, e1, e2, e3, if_pos h.2, List.drop_drop]
  · refine FnOk.go t77 [.call [0] [] (vI .i64 (cw xs)) [cur (cl xs) (false || cb xs)], .call [0] [] (vI .i64 (cw (cl xs))) [cur (cl (cl xs)) (false || cb xs || cb (cl xs))], .call [0] [] (vD (lF (if coilsOk (cl (cl xs)) (cw (cl xs)) then unpackL ((cl (cl xs)).drop 1) (cw (cl xs)).toNat else []))) [cur ys bd]] [0] [] rfl rfl rfl rfl rfl rfl rfl ⟨trivial, c1, trivial, c2, trivial, c3, trivial⟩ (by simp) ?_
    refine .e (.agg ?_)
    repeat (first | exact LeCs.nil | refine LeCs.cons (.refl _) ?_ | refine LeCs.cons leF ?_ | refine LeCs.cons leI ?_)
theorem wAt_rng {b : List Int} (h : Byt b) (k : Nat) : 0 ≤ wAt b k ∧ wAt b k ≤ 65535 := by
  have h0 := at_byt h k
  have h1 := at_byt h (k + 1)
  unfold wAt; omega
theorem wsOf_wrd {b : List Int} (h : Byt b) (n : Nat) : Wrd (wsOf b n) := by
  intro x hx
  obtain ⟨i, _, rfl⟩ := List.mem_map.1 hx
  exact wAt_rng h _
theorem fields16 {xs : List Int} (hb : Byt xs) (hl : xs.length ≤ 1000) : FieldsOk 16 xs := by
  have w1 := cw_rng hb
  have w2 := cw_rng (cl_byt hb)
  have l1 := cl_len xs
  have l2 := cl_len (cl xs)
  have hz := cl_byt (cl_byt hb)
  have c1 := curPlace_ok (bad := false) hb (by omega)
  have c2 := curPlace_ok (bad := false || cb xs) (cl_byt hb) (by omega)
  obtain ⟨ys, bd, hy, hbd, c3⟩ := curWords_ok (bad := false || cb xs || cb (cl xs)) (n := (cw (cl xs)).toNat) hz (by omega) (by omega)
  rw [Int.toNat_of_nonneg w2.1] at c3
  have ok : askOk 16 xs = (decide (5 ≤ xs.length) && wordsOk (xs.drop 4) (wAt xs 2).toNat) := by simp [askOk]
  have of : askOf 16 xs = { fn := 16, at_ := wAt xs 0, n := wAt xs 2, words := wsOf (xs.drop 5) (wAt xs 2).toNat } := by simp [askOf]
  refine ⟨{ fn := 16, at_ := cw xs, n := cw (cl xs), words := if wordsOk (cl (cl xs)) (cw (cl xs)).toNat then wsOf ((cl (cl xs)).drop 1) (cw (cl xs)).toNat else [] }, ys, bd, fitA (by simp [b64]) (by simp [b64]; omega) (by simp [b64]; omega) (by simp) (by simp) (by simp) (by simp) ?_ ?_ (by simp [b64]) (by simp [b64]) (by simp [b64]) (by simp [b64]), ?_, ?_, ?_⟩
  · show (if _ then _ else _ : List Int).length ≤ _
    split
    · rw [wsOf_len]; omega
    · simp
  · show Wrd (if _ then _ else _)
    split
    · exact wsOf_wrd (fun x hx => hz x (List.mem_of_mem_drop hx)) _
    · exact wrd_nil
  · have e : (bd = false ∧ ys = []) ↔ bd = false := ⟨fun h => h.1, fun h => ⟨h, by rcases hy with h' | h'; exact h'; rw [h] at h'; cases h'⟩⟩
    rw [e, hbd, ok, Bool.or_eq_false_iff, Bool.or_eq_false_iff, bad2, Bool.and_eq_true, decide_eq_true_iff]
    constructor
    · rintro ⟨⟨h1, h2⟩, h3⟩
      obtain ⟨e1, e2, e3⟩ := chain2 h1
      rw [e1, e3] at h3
      rw [e1] at h2
      have h4 := of_decide_eq_false h2
      simp at h4
      exact ⟨by omega, by simpa using h3⟩
    · rintro ⟨h1, h2⟩
      obtain ⟨e1, e2, e3⟩ := chain2 (xs := xs) (by omega)
      rw [e1, e3, h2]
      exact ⟨⟨by omega, decide_eq_false (by simp; omega)⟩, rfl⟩
  · intro h
    rw [ok, Bool.and_eq_true, decide_eq_true_iff] at h
    obtain ⟨e1, e2, e3⟩ := chain2 (xs := xs) (by omega)
    rw [of, e1, e2, e3, if_pos h.2, List.drop_drop]
  · refine FnOk.go t77 [.call [0] [] (vI .i64 (cw xs)) [cur (cl xs) (false || cb xs)], .call [0] [] (vI .i64 (cw (cl xs))) [cur (cl (cl xs)) (false || cb xs || cb (cl xs))], .call [0] [] (vD (lI .u16 (if wordsOk (cl (cl xs)) (cw (cl xs)).toNat then wsOf ((cl (cl xs)).drop 1) (cw (cl xs)).toNat else []))) [cur ys bd]] [0] [] rfl rfl rfl rfl rfl rfl rfl ⟨trivial, c1, trivial, c2, trivial, c3, trivial⟩ (by simp) ?_
    refine .e (.agg ?_)
    repeat (first | exact LeCs.nil | refine LeCs.cons (.refl _) ?_ | refine LeCs.cons leF ?_ | refine LeCs.cons leI ?_)
theorem bad2' (b : Bool) (xs : List Int) : (b || cb xs || cb (cl xs)) = false ↔ b = false ∧ 4 ≤ xs.length := by
  have := bad2 xs
  cases b
  · simpa using this
  · simp
theorem fields23 {xs : List Int} (hb : Byt xs) (hl : xs.length ≤ 1000) : FieldsOk 23 xs := by
  have w1 := cw_rng hb
  have w2 := cw_rng (cl_byt hb)
  have l1 := cl_len xs
  have l2 := cl_len (cl xs)
  have hz := cl_byt (cl_byt hb)
  have c1 := curPlace_ok (bad := false) hb (by omega)
  have c2 := curPlace_ok (bad := false || cb xs) (cl_byt hb) (by omega)
  have hc := @chain2 xs
  have hbb := bad2 xs
  generalize (false || cb xs || cb (cl xs)) = b1 at *
  generalize hzz : cl (cl xs) = zs at *
  have l3 := cl_len zs
  have l4 := cl_len (cl zs)
  have v1 := cw_rng hz
  have v2 := cw_rng (cl_byt hz)
  have hy2 := cl_byt (cl_byt hz)
  have c3 := curPlace_ok (bad := b1) hz (by omega)
  have c4 := curPlace_ok (bad := b1 || cb zs) (cl_byt hz) (by omega)
  obtain ⟨ys, bd, hy, hbd, c5⟩ := curWords_ok (bad := b1 || cb zs || cb (cl zs)) (n := (cw (cl zs)).toNat) hy2 (by omega) (by omega)
  rw [Int.toNat_of_nonneg v2.1] at c5
  have ok : askOk 23 xs = (decide (9 ≤ xs.length) && wordsOk (xs.drop 8) (wAt xs 6).toNat) := by simp [askOk]
  have of : askOf 23 xs = { fn := 23, ra := wAt xs 0, rn := wAt xs 2, at_ := wAt xs 4, n := wAt xs 6, words := wsOf (xs.drop 9) (wAt xs 6).toNat } := by simp [askOf]
  have hch : 8 ≤ xs.length → zs = xs.drop 4 ∧ cw xs = wAt xs 0 ∧ cw (cl xs) = wAt xs 2 ∧ cl (cl zs) = xs.drop 8 ∧ cw zs = wAt xs 4 ∧ cw (cl zs) = wAt xs 6 := fun h => by
    obtain ⟨e1, e2, e3⟩ := hc (by omega)
    obtain ⟨e4, e5, e6⟩ := chain2 (xs := xs.drop 4) (by simp; omega)
    rw [← e1] at e4 e5 e6
    refine ⟨e1, e2, e3, ?_, ?_, ?_⟩
    · rw [e4, e1, List.drop_drop]
    · rw [e5, e1, wAt_drop]
    · rw [e6, e1]; simp [wAt, List.getD_eq_getElem?_getD]
  refine ⟨{ fn := 23, ra := cw xs, rn := cw (cl xs), at_ := cw zs, n := cw (cl zs), words := if wordsOk (cl (cl zs)) (cw (cl zs)).toNat then wsOf ((cl (cl zs)).drop 1) (cw (cl zs)).toNat else [] }, ys, bd, fitA (by simp [b64]) (by simp [b64]; omega) (by simp [b64]; omega) (by simp) (by simp) (by simp) (by simp) ?_ ?_ (by simp [b64]; omega) (by simp [b64]; omega) (by simp [b64]) (by simp [b64]), ?_, ?_, ?_⟩
  · show (if _ then _ else _ : List Int).length ≤ _
    split
    · rw [wsOf_len]; omega
    · simp
  · show Wrd (if _ then _ else _)
    split
    · exact wsOf_wrd (fun x hx => hy2 x (List.mem_of_mem_drop hx)) _
    · exact wrd_nil
  · have e : (bd = false ∧ ys = []) ↔ bd = false := ⟨fun h => h.1, fun h => ⟨h, by rcases hy with h' | h'; exact h'; rw [h] at h'; cases h'⟩⟩
    rw [e, hbd, ok, Bool.or_eq_false_iff, Bool.or_eq_false_iff, bad2', hbb, Bool.and_eq_true, decide_eq_true_iff]
    constructor
    · rintro ⟨⟨⟨h0, h1⟩, h2⟩, h3⟩
      obtain ⟨e1, _, _⟩ := hc h0
      rw [e1] at h1
      simp only [List.length_drop] at h1
      obtain ⟨_, _, _, e4, e5, e6⟩ := hch (by omega)
      rw [e4, e6] at h3
      rw [e4] at h2
      have h4 := of_decide_eq_false h2
      simp at h4
      exact ⟨by omega, by simpa using h3⟩
    · rintro ⟨h1, h2⟩
      obtain ⟨e1, _, _, e4, e5, e6⟩ := hch (by omega)
      rw [e4, e6, h2, e1]
      exact ⟨⟨⟨by omega, by simp; omega⟩, decide_eq_false (by simp; omega)⟩, rfl⟩
  · intro h
    rw [ok, Bool.and_eq_true, decide_eq_true_iff] at h
    obtain ⟨e1, e2, e3, e4, e5, e6⟩ := hch (by omega)
    rw [of, e2, e3, e4, e5, e6, if_pos h.2, List.drop_drop]
  · refine FnOk.go t77 [.call [0] [] (vI .i64 (cw xs)) [cur (cl xs) (false || cb xs)], .call [0] [] (vI .i64 (cw (cl xs))) [cur zs b1], .call [0] [] (vI .i64 (cw zs)) [cur (cl zs) (b1 || cb zs)], .call [0] [] (vI .i64 (cw (cl zs))) [cur (cl (cl zs)) (b1 || cb zs || cb (cl zs))], .call [0] [] (vD (lI .u16 (if wordsOk (cl (cl zs)) (cw (cl zs)).toNat then wsOf ((cl (cl zs)).drop 1) (cw (cl zs)).toNat else []))) [cur ys bd]] [0] [] rfl rfl rfl rfl rfl rfl rfl ⟨trivial, c1, trivial, c2, trivial, c3, trivial, c4, trivial, c5, trivial⟩ (by simp) ?_
    refine .e (.agg ?_)
    repeat (first | exact LeCs.nil | refine LeCs.cons (.refl _) ?_ | refine LeCs.cons leF ?_ | refine LeCs.cons leI ?_)
end Go.Proofs.Ytheaeddojcebjaa
