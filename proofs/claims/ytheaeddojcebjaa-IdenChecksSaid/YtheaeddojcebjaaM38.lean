/-
  The fields of a reply, out of what stands behind its function.
-/
import Derived.Test.YtheaeddojcebjaaM37
set_option maxRecDepth 100000
set_option maxHeartbeats 4000000
set_option linter.unusedVariables false
set_option linter.unusedSimpArgs false
namespace Go.Proofs.Ytheaeddojcebjaa
open Go.RowKit

theorem leOb : C.le (.t .nil) (.t (lO [])) := .t (.nil 2)
def d6Ok (xs : List Int) : Bool := match tv (xs.getD 5 0).toNat (xs.drop 6) with
  | some r => decide (6 ≤ xs.length ∧ xs.getD 0 0 = 14 ∧ (xs.getD 3 0 = 0 ∨ xs.getD 3 0 = 255)) && decide (r.2 = [])
  | none => false
def d6Of (xs : List Int) : List Obj := match tv (xs.getD 5 0).toNat (xs.drop 6) with
  | some r => r.1
  | none => []
/-- May what stands behind the function be a reply's fields? -/
def tellOk (fn n : Int) (xs : List Int) : Bool :=
  if fn = 1 ∨ fn = 2 then bOk xs n
  else if fn = 3 ∨ fn = 4 ∨ fn = 23 then w6Ok xs
  else if fn = 5 then decide (xs.length = 4 ∧ (wAt xs 2 = 0 ∨ wAt xs 2 = 65280))
  else if fn = 22 then decide (xs.length = 6)
  else if fn = 43 then d6Ok xs
  else decide (xs.length = 4)
def tellOf (fn n : Int) (xs : List Int) : Tell :=
  if fn = 1 ∨ fn = 2 then { fn := fn, bits := unpackL (xs.drop 1) n.toNat }
  else if fn = 3 ∨ fn = 4 ∨ fn = 23 then { fn := fn, words := wsOf (xs.drop 1) (xs.getD 0 0 / 2).toNat }
  else if fn = 5 then { fn := fn, at_ := wAt xs 0, val := wAt xs 2 / 65280 }
  else if fn = 6 then { fn := fn, at_ := wAt xs 0, val := wAt xs 2 }
  else if fn = 22 then { fn := fn, at_ := wAt xs 0, and_ := wAt xs 2, or_ := wAt xs 4 }
  else if fn = 43 then { fn := fn, code := xs.getD 1 0, level := xs.getD 2 0, more := xs.getD 3 0 == 255, next := xs.getD 4 0, objs := d6Of xs }
  else { fn := fn, at_ := wAt xs 0, n := wAt xs 2 }
/-- What the cursor gives for a function. -/
def TFieldsOk (fn n : Int) (xs : List Int) : Prop := ∃ a ys bad, a.Fit ∧ ((bad = false ∧ ys = []) ↔ tellOk fn n xs = true) ∧ (tellOk fn n xs = true → a = tellOf fn n xs) ∧
  FnOk Try.prog 112 [vC (.ptr 0 0), vI .i64 fn, vI .i64 n] [cur xs false] a.v [cur ys bad]
theorem fitT {a : Tell} (h1 : b64 a.fn) (h2 : b64 a.at_) (h3 : b64 a.n) (h4 : 0 ≤ a.val ∧ a.val ≤ 65535) (h5 : 0 ≤ a.and_ ∧ a.and_ ≤ 65535) (h6 : 0 ≤ a.or_ ∧ a.or_ ≤ 65535) (h7 : a.bits.length ≤ 1000000000000) (h8 : a.words.length ≤ 1000000000000) (h9 : Wrd a.words) (he : a.exc = 0) (hc : a.code = 0) (hv : a.level = 0) (hn : a.next = 0) (ho : a.objs = []) : a.Fit := by
  refine ⟨h1, by rw [he]; simp [b64], h7, h8, h9, h2, h3, h4, h5, h6, by rw [hc]; simp [b64], by rw [hv]; simp [b64], by rw [hn]; simp [b64], by rw [ho]; simp, ?_⟩
  rw [ho]
  exact fun o h => nomatch h

theorem tFields1 {xs : List Int} {n : Int} (hb : Byt xs) (hl : xs.length ≤ 1000) (hn : b64 n) : TFieldsOk 1 n xs := by
  obtain ⟨l, ys, bad, h1, h2, h3, h4⟩ := tCoils_ok hb (by omega) hn
  have ok : tellOk 1 n xs = bOk xs n := by simp [tellOk]
  have of : tellOf 1 n xs = { fn := 1, bits := unpackL (xs.drop 1) n.toNat } := by simp [tellOf]
  refine ⟨{ fn := 1, bits := l }, ys, bad, fitT (by simp [b64]) (by simp [b64]) (by simp [b64]) (by simp) (by simp) (by simp) (by simp only; omega) (by simp) wrd_nil rfl rfl rfl rfl rfl, ?_, ?_, ?_⟩
  · rw [ok]; exact h1
  · intro h
    rw [ok] at h
    rw [of, h2 h]
  · refine FnOk.go t112 [.call [0] [] (vD (lF l)) [cur ys bad]] [0] [] rfl rfl rfl rfl rfl rfl rfl ?_ (by simp) ?_
    · simp only [true_and, and_true]
      repeat' (first | assumption | omega | (simp; done) | apply And.intro)
    refine .e (.agg ?_)
    repeat (first | exact LeCs.nil | refine LeCs.cons (.refl _) ?_ | refine LeCs.cons leF ?_ | refine LeCs.cons leI ?_ | refine LeCs.cons leOb ?_)
theorem tFields2 {xs : List Int} {n : Int} (hb : Byt xs) (hl : xs.length ≤ 1000) (hn : b64 n) : TFieldsOk 2 n xs := by
  obtain ⟨l, ys, bad, h1, h2, h3, h4⟩ := tCoils_ok hb (by omega) hn
  have ok : tellOk 2 n xs = bOk xs n := by simp [tellOk]
  have of : tellOf 2 n xs = { fn := 2, bits := unpackL (xs.drop 1) n.toNat } := by simp [tellOf]
  refine ⟨{ fn := 2, bits := l }, ys, bad, fitT (by simp [b64]) (by simp [b64]) (by simp [b64]) (by simp) (by simp) (by simp) (by simp only; omega) (by simp) wrd_nil rfl rfl rfl rfl rfl, ?_, ?_, ?_⟩
  · rw [ok]; exact h1
  · intro h
    rw [ok] at h
    rw [of, h2 h]
  · refine FnOk.go t112 [.call [0] [] (vD (lF l)) [cur ys bad]] [0] [] rfl rfl rfl rfl rfl rfl rfl ?_ (by simp) ?_
    · simp only [true_and, and_true]
      repeat' (first | assumption | omega | (simp; done) | apply And.intro)
    refine .e (.agg ?_)
    repeat (first | exact LeCs.nil | refine LeCs.cons (.refl _) ?_ | refine LeCs.cons leF ?_ | refine LeCs.cons leI ?_ | refine LeCs.cons leOb ?_)
theorem tFields3 {xs : List Int} {n : Int} (hb : Byt xs) (hl : xs.length ≤ 1000) (hn : b64 n) : TFieldsOk 3 n xs := by
  obtain ⟨l, ys, bad, h1, h2, h3, h4, h5⟩ := tWords_ok hb (by omega)
  have ok : tellOk 3 n xs = w6Ok xs := by simp [tellOk]
  have of : tellOf 3 n xs = { fn := 3, words := wsOf (xs.drop 1) (xs.getD 0 0 / 2).toNat } := by simp [tellOf]
  refine ⟨{ fn := 3, words := l }, ys, bad, fitT (by simp [b64]) (by simp [b64]) (by simp [b64]) (by simp) (by simp) (by simp) (by simp) (by simp only; omega) h4 rfl rfl rfl rfl rfl, ?_, ?_, ?_⟩
  · rw [ok]; exact h1
  · intro h
    rw [ok] at h
    rw [of, h2 h]
  · refine FnOk.go t112 [.call [0] [] (vD (lI .u16 l)) [cur ys bad]] [0] [] rfl rfl rfl rfl rfl rfl rfl ?_ (by simp) ?_
    · simp only [true_and, and_true]
      repeat' (first | assumption | omega | (simp; done) | apply And.intro)
    refine .e (.agg ?_)
    repeat (first | exact LeCs.nil | refine LeCs.cons (.refl _) ?_ | refine LeCs.cons leF ?_ | refine LeCs.cons leI ?_ | refine LeCs.cons leOb ?_)
theorem tFields4 {xs : List Int} {n : Int} (hb : Byt xs) (hl : xs.length ≤ 1000) (hn : b64 n) : TFieldsOk 4 n xs := by
  obtain ⟨l, ys, bad, h1, h2, h3, h4, h5⟩ := tWords_ok hb (by omega)
  have ok : tellOk 4 n xs = w6Ok xs := by simp [tellOk]
  have of : tellOf 4 n xs = { fn := 4, words := wsOf (xs.drop 1) (xs.getD 0 0 / 2).toNat } := by simp [tellOf]
  refine ⟨{ fn := 4, words := l }, ys, bad, fitT (by simp [b64]) (by simp [b64]) (by simp [b64]) (by simp) (by simp) (by simp) (by simp) (by simp only; omega) h4 rfl rfl rfl rfl rfl, ?_, ?_, ?_⟩
  · rw [ok]; exact h1
  · intro h
    rw [ok] at h
    rw [of, h2 h]
  · refine FnOk.go t112 [.call [0] [] (vD (lI .u16 l)) [cur ys bad]] [0] [] rfl rfl rfl rfl rfl rfl rfl ?_ (by simp) ?_
    · simp only [true_and, and_true]
      repeat' (first | assumption | omega | (simp; done) | apply And.intro)
    refine .e (.agg ?_)
    repeat (first | exact LeCs.nil | refine LeCs.cons (.refl _) ?_ | refine LeCs.cons leF ?_ | refine LeCs.cons leI ?_ | refine LeCs.cons leOb ?_)
theorem tFields23 {xs : List Int} {n : Int} (hb : Byt xs) (hl : xs.length ≤ 1000) (hn : b64 n) : TFieldsOk 23 n xs := by
  obtain ⟨l, ys, bad, h1, h2, h3, h4, h5⟩ := tWords_ok hb (by omega)
  have ok : tellOk 23 n xs = w6Ok xs := by simp [tellOk]
  have of : tellOf 23 n xs = { fn := 23, words := wsOf (xs.drop 1) (xs.getD 0 0 / 2).toNat } := by simp [tellOf]
  refine ⟨{ fn := 23, words := l }, ys, bad, fitT (by simp [b64]) (by simp [b64]) (by simp [b64]) (by simp) (by simp) (by simp) (by simp) (by simp only; omega) h4 rfl rfl rfl rfl rfl, ?_, ?_, ?_⟩
  · rw [ok]; exact h1
  · intro h
    rw [ok] at h
    rw [of, h2 h]
  · refine FnOk.go t112 [.call [0] [] (vD (lI .u16 l)) [cur ys bad]] [0] [] rfl rfl rfl rfl rfl rfl rfl ?_ (by simp) ?_
    · simp only [true_and, and_true]
      repeat' (first | assumption | omega | (simp; done) | apply And.intro)
    refine .e (.agg ?_)
    repeat (first | exact LeCs.nil | refine LeCs.cons (.refl _) ?_ | refine LeCs.cons leF ?_ | refine LeCs.cons leI ?_ | refine LeCs.cons leOb ?_)
theorem tFields6 {xs : List Int} {n : Int} (hb : Byt xs) (hl : xs.length ≤ 1000) (hn : b64 n) : TFieldsOk 6 n xs := by
  have w1 := cw_rng hb
  have w2 := cw_rng (cl_byt hb)
  have l1 := cl_len xs
  have c1 := tWord_ok (bad := false) hb (by omega)
  have c2 := tWord_ok (bad := false || cb xs) (cl_byt hb) (by omega)
  have ok : tellOk 6 n xs = decide (xs.length = 4) := by simp [tellOk]
  have of : tellOf 6 n xs = { fn := 6, at_ := wAt xs 0, val := wAt xs 2 } := by simp [tellOf]
  refine ⟨{ fn := 6, at_ := cw xs, val := cw (cl xs) }, cl (cl xs), false || cb xs || cb (cl xs), fitT (by simp [b64]) (by simp [b64]; omega) (by simp [b64]) w2 (by simp) (by simp) (by simp) (by simp) wrd_nil rfl rfl rfl rfl rfl, ?_, ?_, ?_⟩
  · rw [good2, ok, decide_eq_true_iff]
  · intro h
    rw [ok] at h
    obtain ⟨e1, e2, e3⟩ := cl2 (of_decide_eq_true h)
    rw [of, e2, e3]
  · refine FnOk.go t112 [.call [0] [] (vI .u16 (cw xs)) [cur (cl xs) (false || cb xs)], .call [0] [] (vI .u16 (cw (cl xs))) [cur (cl (cl xs)) (false || cb xs || cb (cl xs))]] [0] [] rfl rfl rfl rfl rfl rfl rfl ?_ (by simp) ?_
    · simp only [true_and, and_true]
      repeat' (first | assumption | omega | (simp; done) | apply And.intro)
    refine .e (.agg ?_)
    repeat (first | exact LeCs.nil | refine LeCs.cons (.refl _) ?_ | refine LeCs.cons leF ?_ | refine LeCs.cons leI ?_ | refine LeCs.cons leOb ?_)
theorem tFields15 {xs : List Int} {n : Int} (hb : Byt xs) (hl : xs.length ≤ 1000) (hn : b64 n) : TFieldsOk 15 n xs := by
  have w1 := cw_rng hb
  have w2 := cw_rng (cl_byt hb)
  have l1 := cl_len xs
  have c1 := tWord_ok (bad := false) hb (by omega)
  have c2 := tWord_ok (bad := false || cb xs) (cl_byt hb) (by omega)
  have ok : tellOk 15 n xs = decide (xs.length = 4) := by simp [tellOk]
  have of : tellOf 15 n xs = { fn := 15, at_ := wAt xs 0, n := wAt xs 2 } := by simp [tellOf]
  refine ⟨{ fn := 15, at_ := cw xs, n := cw (cl xs) }, cl (cl xs), false || cb xs || cb (cl xs), fitT (by simp [b64]) (by simp [b64]; omega) (by simp [b64]; omega) (by simp) (by simp) (by simp) (by simp) (by simp) wrd_nil rfl rfl rfl rfl rfl, ?_, ?_, ?_⟩
  · rw [good2, ok, decide_eq_true_iff]
  · intro h
    rw [ok] at h
    obtain ⟨e1, e2, e3⟩ := cl2 (of_decide_eq_true h)
    rw [of, e2, e3]
  · refine FnOk.go t112 [.call [0] [] (vI .u16 (cw xs)) [cur (cl xs) (false || cb xs)], .call [0] [] (vI .u16 (cw (cl xs))) [cur (cl (cl xs)) (false || cb xs || cb (cl xs))]] [0] [] rfl rfl rfl rfl rfl rfl rfl ?_ (by simp) ?_
    · simp only [true_and, and_true]
      repeat' (first | assumption | omega | (simp; done) | apply And.intro)
    refine .e (.agg ?_)
    repeat (first | exact LeCs.nil | refine LeCs.cons (.refl _) ?_ | refine LeCs.cons leF ?_ | refine LeCs.cons leI ?_ | refine LeCs.cons leOb ?_)
theorem tFields16 {xs : List Int} {n : Int} (hb : Byt xs) (hl : xs.length ≤ 1000) (hn : b64 n) : TFieldsOk 16 n xs := by
  have w1 := cw_rng hb
  have w2 := cw_rng (cl_byt hb)
  have l1 := cl_len xs
  have c1 := tWord_ok (bad := false) hb (by omega)
  have c2 := tWord_ok (bad := false || cb xs) (cl_byt hb) (by omega)
  have ok : tellOk 16 n xs = decide (xs.length = 4) := by simp [tellOk]
  have of : tellOf 16 n xs = { fn := 16, at_ := wAt xs 0, n := wAt xs 2 } := by simp [tellOf]
  refine ⟨{ fn := 16, at_ := cw xs, n := cw (cl xs) }, cl (cl xs), false || cb xs || cb (cl xs), fitT (by simp [b64]) (by simp [b64]; omega) (by simp [b64]; omega) (by simp) (by simp) (by simp) (by simp) (by simp) wrd_nil rfl rfl rfl rfl rfl, ?_, ?_, ?_⟩
  · rw [good2, ok, decide_eq_true_iff]
  · intro h
    rw [ok] at h
    obtain ⟨e1, e2, e3⟩ := cl2 (of_decide_eq_true h)
    rw [of, e2, e3]
  · refine FnOk.go t112 [.call [0] [] (vI .u16 (cw xs)) [cur (cl xs) (false || cb xs)], .call [0] [] (vI .u16 (cw (cl xs))) [cur (cl (cl xs)) (false || cb xs || cb (cl xs))]] [0] [] rfl rfl rfl rfl rfl rfl rfl ?_ (by simp) ?_
    · simp only [true_and, and_true]
      repeat' (first | assumption | omega | (simp; done) | apply And.intro)
    refine .e (.agg ?_)
    repeat (first | exact LeCs.nil | refine LeCs.cons (.refl _) ?_ | refine LeCs.cons leF ?_ | refine LeCs.cons leI ?_ | refine LeCs.cons leOb ?_)
theorem tFields5 {xs : List Int} {n : Int} (hb : Byt xs) (hl : xs.length ≤ 1000) (hn : b64 n) : TFieldsOk 5 n xs := by
  have w1 := cw_rng hb
  have w2 := cw_rng (cl_byt hb)
  have l1 := cl_len xs
  have c1 := tWord_ok (bad := false) hb (by omega)
  have c2 := tCoil_ok (bad := false || cb xs) (cl_byt hb) (by omega)
  have ok : tellOk 5 n xs = decide (xs.length = 4 ∧ (wAt xs 2 = 0 ∨ wAt xs 2 = 65280)) := by simp [tellOk]
  have of : tellOf 5 n xs = { fn := 5, at_ := wAt xs 0, val := wAt xs 2 / 65280 } := by simp [tellOf]
  refine ⟨{ fn := 5, at_ := cw xs, val := cw (cl xs) / 65280 }, cl (cl xs), false || cb xs || cb (cl xs) || !decide (cw (cl xs) = 0 ∨ cw (cl xs) = 65280), fitT (by simp [b64]) (by simp [b64]; omega) (by simp [b64]) (by simp only; omega) (by simp) (by simp) (by simp) (by simp) wrd_nil rfl rfl rfl rfl rfl, ?_, ?_, ?_⟩
  · rw [ok, decide_eq_true_iff, Bool.or_eq_false_iff]
    constructor
    · rintro ⟨⟨h1, h2⟩, h3⟩
      have h4 := (good2 xs).1 ⟨h1, h3⟩
      obtain ⟨e1, e2, e3⟩ := cl2 h4
      rw [e3] at h2
      simp only [Bool.not_eq_false', decide_eq_true_eq] at h2
      exact ⟨h4, h2⟩
    · rintro ⟨h1, h2⟩
      obtain ⟨e1, e2, e3⟩ := cl2 h1
      have h4 := (good2 xs).2 h1
      refine ⟨⟨h4.1, ?_⟩, h4.2⟩
      rw [e3, decide_eq_true h2]
      rfl
  · intro h
    rw [ok] at h
    obtain ⟨e1, e2, e3⟩ := cl2 (of_decide_eq_true h).1
    rw [of, e2, e3]
  · refine FnOk.go t112 [.call [0] [] (vI .u16 (cw xs)) [cur (cl xs) (false || cb xs)], .call [0] [] (vI .u16 (cw (cl xs) / 65280)) [cur (cl (cl xs)) (false || cb xs || cb (cl xs) || !decide (cw (cl xs) = 0 ∨ cw (cl xs) = 65280))]] [0] [] rfl rfl rfl rfl rfl rfl rfl ?_ (by simp) ?_
    · simp only [true_and, and_true]
      repeat' (first | assumption | omega | (simp; done) | apply And.intro)
    refine .e (.agg ?_)
    repeat (first | exact LeCs.nil | refine LeCs.cons (.refl _) ?_ | refine LeCs.cons leF ?_ | refine LeCs.cons leI ?_ | refine LeCs.cons leOb ?_)
theorem tFields22 {xs : List Int} {n : Int} (hb : Byt xs) (hl : xs.length ≤ 1000) (hn : b64 n) : TFieldsOk 22 n xs := by
  have w1 := cw_rng hb
  have w2 := cw_rng (cl_byt hb)
  have w3 := cw_rng (cl_byt (cl_byt hb))
  have l1 := cl_len xs
  have l2 := cl_len (cl xs)
  have c1 := tWord_ok (bad := false) hb (by omega)
  have c2 := tWord_ok (bad := false || cb xs) (cl_byt hb) (by omega)
  have c3 := tWord_ok (bad := false || cb xs || cb (cl xs)) (cl_byt (cl_byt hb)) (by omega)
  have ok : tellOk 22 n xs = decide (xs.length = 6) := by simp [tellOk]
  have of : tellOf 22 n xs = { fn := 22, at_ := wAt xs 0, and_ := wAt xs 2, or_ := wAt xs 4 } := by simp [tellOf]
  refine ⟨{ fn := 22, at_ := cw xs, and_ := cw (cl xs), or_ := cw (cl (cl xs)) }, cl (cl (cl xs)), false || cb xs || cb (cl xs) || cb (cl (cl xs)), fitT (by simp [b64]) (by simp [b64]; omega) (by simp [b64]) (by simp) w2 w3 (by simp) (by simp) wrd_nil rfl rfl rfl rfl rfl, ?_, ?_, ?_⟩
  · rw [good3, ok, decide_eq_true_iff]
  · intro h
    rw [ok] at h
    obtain ⟨e1, e2, e3, e4⟩ := cl3 (of_decide_eq_true h)
    rw [of, e2, e3, e4]
  · refine FnOk.go t112 [.call [0] [] (vI .u16 (cw xs)) [cur (cl xs) (false || cb xs)], .call [0] [] (vI .u16 (cw (cl xs))) [cur (cl (cl xs)) (false || cb xs || cb (cl xs))], .call [0] [] (vI .u16 (cw (cl (cl xs)))) [cur (cl (cl (cl xs))) (false || cb xs || cb (cl xs) || cb (cl (cl xs)))]] [0] [] rfl rfl rfl rfl rfl rfl rfl ?_ (by simp) ?_
    · simp only [true_and, and_true]
      repeat' (first | assumption | omega | (simp; done) | apply And.intro)
    refine .e (.agg ?_)
    repeat (first | exact LeCs.nil | refine LeCs.cons (.refl _) ?_ | refine LeCs.cons leF ?_ | refine LeCs.cons leI ?_ | refine LeCs.cons leOb ?_)
theorem dB_ok {xs : List Int} : dB xs = false ↔ 6 ≤ xs.length ∧ xs.getD 0 0 = 14 ∧ (xs.getD 3 0 = 0 ∨ xs.getD 3 0 = 255) := by
  unfold dB
  simp only [Bool.or_eq_false_iff, Bool.false_or, decide_eq_false_iff_not, Bool.not_eq_false', beq_iff_eq, decide_eq_true_eq]
  constructor
  · rintro ⟨⟨⟨⟨⟨⟨⟨h1, h2⟩, h3⟩, h4⟩, h5⟩, h6⟩, h7⟩, h8⟩
    exact ⟨by omega, h2, h6⟩
  · rintro ⟨h1, h2, h3⟩
    exact ⟨⟨⟨⟨⟨⟨⟨by omega, h2⟩, by omega⟩, by omega⟩, by omega⟩, h3⟩, by omega⟩, by omega⟩
theorem tFields43 {xs : List Int} {n : Int} (hb : Byt xs) (hl : xs.length ≤ 1000) (hn : b64 n) : TFieldsOk 43 n xs := by
  have hd := tDevice_ok hb (by omega)
  have b1 := at_byt hb 1
  have b2 := at_byt hb 2
  have b4 := at_byt hb 4
  have b5 := at_byt hb 5
  have hz : Byt (xs.drop 6) := fun x hx => hb x (List.mem_of_mem_drop hx)
  have ok : tellOk 43 n xs = d6Ok xs := by simp [tellOk]
  have of : tellOf 43 n xs = { fn := 43, code := xs.getD 1 0, level := xs.getD 2 0, more := xs.getD 3 0 == 255, next := xs.getD 4 0, objs := d6Of xs } := by simp [tellOf]
  obtain ⟨f1, f2, f3⟩ := dv_fit (xs.getD 5 0).toNat (dB xs) hz
  have htv := dv_tv (xs.getD 5 0).toNat hz
  refine ⟨{ fn := 43, code := xs.getD 1 0, level := xs.getD 2 0, more := xs.getD 3 0 == 255, next := xs.getD 4 0, objs := (dv (xs.getD 5 0).toNat (xs.drop 6) (dB xs)).1 }, (dv (xs.getD 5 0).toNat (xs.drop 6) (dB xs)).2.1, (dv (xs.getD 5 0).toNat (xs.drop 6) (dB xs)).2.2, ?_, ?_, ?_, ?_⟩
  rotate_left 3
  · refine FnOk.go t112 [.call [0] [] (.e (.agg (dcs (xs.getD 1 0) (xs.getD 2 0) (xs.getD 3 0 == 255) (xs.getD 4 0) (.t (lO (dv (xs.getD 5 0).toNat (xs.drop 6) (dB xs)).1))))) [cur (dv (xs.getD 5 0).toNat (xs.drop 6) (dB xs)).2.1 (dv (xs.getD 5 0).toNat (xs.drop 6) (dB xs)).2.2]] [0] [] rfl rfl rfl rfl rfl rfl rfl ?_ (by simp) ?_
    · simp only [true_and, and_true]
      repeat' (first | assumption | omega | (simp; done) | apply And.intro)
    refine .e (.agg ?_)
    repeat (first | exact LeCs.nil | refine LeCs.cons (.refl _) ?_ | refine LeCs.cons leF ?_ | refine LeCs.cons leI ?_ | refine LeCs.cons leOb ?_)
  · exact ⟨by simp [b64], by simp [b64], by simp, by simp, wrd_nil, by simp [b64], by simp [b64], by simp, by simp, by simp, by simp only [b64]; omega, by simp only [b64]; omega, by simp only [b64]; omega, by simp only; omega, f2⟩
  · rw [ok]
    unfold d6Ok
    cases hB : dB xs with
    | true =>
      have h0 : ¬ (6 ≤ xs.length ∧ xs.getD 0 0 = 14 ∧ (xs.getD 3 0 = 0 ∨ xs.getD 3 0 = 255)) := fun h => by
        have := dB_ok.2 h
        rw [hB] at this
        cases this
      rw [dv_true, decide_eq_false h0]
      constructor
      · rintro ⟨h, _⟩; cases h
      · intro h; split at h <;> simp at h
    | false =>
      have h0 := dB_ok.1 hB
      rw [decide_eq_true h0]
      generalize tv (xs.getD 5 0).toNat (xs.drop 6) = r at *
      cases r with
      | none => simp only [htv]; simp
      | some r => simp only [htv]; simp
  · intro h
    rw [ok] at h
    rw [of]
    unfold d6Ok at h
    unfold d6Of
    generalize tv (xs.getD 5 0).toNat (xs.drop 6) = r at *
    cases r with
    | none => cases h
    | some r =>
      simp only [Bool.and_eq_true, decide_eq_true_eq] at h
      rw [dB_ok.2 h.1]
      simp only [htv]
theorem tFields_ok {fn : Int} (hk : known fn = true) {xs : List Int} {n : Int} (hb : Byt xs) (hl : xs.length ≤ 1000) (hn : b64 n) : TFieldsOk fn n xs := by
  have h := of_decide_eq_true hk
  rcases h with rfl | rfl | rfl | rfl | rfl | rfl | rfl | rfl | rfl | rfl | rfl
  · exact tFields1 hb hl hn
  · exact tFields2 hb hl hn
  · exact tFields3 hb hl hn
  · exact tFields4 hb hl hn
  · exact tFields5 hb hl hn
  · exact tFields6 hb hl hn
  · exact tFields15 hb hl hn
  · exact tFields16 hb hl hn
  · exact tFields22 hb hl hn
  · exact tFields23 hb hl hn
  · exact tFields43 hb hl hn
end Go.Proofs.Ytheaeddojcebjaa
