/-
  The cursor of requests: what is left of a list, and whether too little was there.
-/
import Derived.Test.YtheaeddojcebjaaM4
set_option maxRecDepth 100000
set_option linter.unusedVariables false
set_option linter.unusedSimpArgs false
namespace Go.Proofs.Ytheaeddojcebjaa
open Go.RowKit

theorem FnOk.cast {P : Program} {f : FuncId} {vs vs' : List V} {hs hs1 hs' : List Ob} {r : V} (h : FnOk P f vs hs r hs') (e1 : vs' = vs) (e2 : hs1 = hs) : FnOk P f vs' hs1 r hs' := by subst e1; subst e2; exact h
abbrev cur (xs : List Int) (bad : Bool) : Ob := .box [.t (lI .u8 xs), .t (.bool bad)]
theorem cur_drop {xs : List Int} {n : Nat} {bad : Bool} (h : n ≤ xs.length) :
    [Ob.box [.t (.ls 1 (xs.length - n) (((rI .u8 xs).drop n).take (xs.length - n))), .t (.bool bad)]] = [cur (xs.drop n) bad] := by
  simp only [cur, lI, rI_drop, rI_take, List.length_drop]
  rw [List.take_of_length_le (by simp)]
theorem curByte_ok {xs : List Int} {bad : Bool} (hb : Byt xs) : FnOk Try.prog 130 [vC (.ptr 0 0)] [cur xs bad] (vI .i64 (xs.getD 0 0)) [cur (xs.drop 1) (bad || decide (xs.length = 0))] := by
  by_cases h : xs.length = 0
  · have : xs = [] := List.eq_nil_of_length_eq_zero h
    subst this
    exact FnOk.go t130 [.b 9 true] [0] [] rfl rfl rfl rfl rfl rfl (by simp) (by simp) trivial (.refl _)
  · have hx := at_byt hb 0
    refine FnOk.go t130 [.b 9 false, .at [.int .u8 (xs.getD 0 0)]] [0] [] rfl rfl rfl rfl rfl rfl ?_ ?_ trivial (.refl _)
    · rw [show (bad || decide (xs.length = 0)) = bad by simp [h]]
      exact cur_drop (n := 1) (by omega)
    · simp only [true_and, and_true]
      exact ⟨by simpa using h, ⟨by omega, rI_get (by omega)⟩, by omega, by simp, by simp <;> omega, by simp⟩
theorem curWord_ok {xs : List Int} {bad : Bool} (hb : Byt xs) (hl : xs.length ≤ 1000000) : FnOk Try.prog 127 [vC (.ptr 0 0)] [cur xs bad] (vI .u16 (if 2 ≤ xs.length then wAt xs 0 else 0)) [cur (if 2 ≤ xs.length then xs.drop 2 else xs) (bad || decide (xs.length < 2))] := by
  by_cases h : 2 ≤ xs.length
  · have e : has2 xs 0 = true := by simp [has2]; omega
    have hg := get_ok hb (by omega) (k := 0) (by omega)
    rw [e] at hg
    rw [if_pos h, if_pos h]
    refine FnOk.go t127 [.lend [] (.tup [.c (.t (.int .u16 (wAt xs 0))), .c (.t (.bool true))])] [0] [] rfl rfl rfl rfl rfl rfl ?_ ?_ trivial (.refl _)
    · rw [show (bad || decide (xs.length < 2)) = bad by simp; omega]
      exact cur_drop (n := 2) (by omega)
    · simp only [true_and, and_true]
      exact ⟨hg, by simp, by simp <;> omega, by simp⟩
  · have e : has2 xs 0 = false := by simp [has2]; omega
    have hg := get_ok hb (by omega) (k := 0) (by omega)
    rw [e] at hg
    rw [if_neg h, if_neg h]
    refine FnOk.go t127 [.lend [] (.tup [.c (.t (.int .u16 0)), .c (.t (.bool false))])] [0] [] rfl rfl rfl rfl rfl rfl ?_ ?_ trivial (.refl _)
    · simp; omega
    · simp only [true_and, and_true]
      exact hg
/-- A word off a list, what is left, and whether it was there. -/
def cw (xs : List Int) : Int := if 2 ≤ xs.length then wAt xs 0 else 0
def cl (xs : List Int) : List Int := if 2 ≤ xs.length then xs.drop 2 else xs
def cb (xs : List Int) : Bool := decide (xs.length < 2)
theorem cl_byt {xs : List Int} (h : Byt xs) : Byt (cl xs) := by
  unfold cl; split
  · exact fun x hx => h x (List.mem_of_mem_drop hx)
  · exact h
theorem cl_len (xs : List Int) : (cl xs).length ≤ xs.length := by unfold cl; split <;> simp
theorem cw_rng {xs : List Int} (h : Byt xs) : 0 ≤ cw xs ∧ cw xs ≤ 65535 := by
  have h0 := at_byt h 0
  have h1 := at_byt h (0 + 1)
  unfold cw wAt; split <;> omega
theorem curPlace_ok {xs : List Int} {bad : Bool} (hb : Byt xs) (hl : xs.length ≤ 1000000) : FnOk Try.prog 125 [vC (.ptr 0 0)] [cur xs bad] (vI .i64 (cw xs)) [cur (cl xs) (bad || cb xs)] := by
  have := cw_rng hb
  exact FnOk.go t125 [.call [0] [] (vI .u16 (cw xs)) [cur (cl xs) (bad || cb xs)]] [0] [] rfl rfl rfl rfl rfl rfl rfl ⟨trivial, curWord_ok hb hl, by omega, trivial⟩ trivial (.refl _)
theorem curCoil_ok {xs : List Int} {bad : Bool} (hb : Byt xs) (hl : xs.length ≤ 1000000) : FnOk Try.prog 126 [vC (.ptr 0 0)] [cur xs bad] (vI .u16 (cw xs / 65280)) [cur (cl xs) (bad || cb xs || decide (cw xs ≠ 0 ∧ cw xs ≠ 65280))] := by
  have hr := cw_rng hb
  have e : IntKind.u16.wrap ((cw xs).tdiv 65280) = cw xs / 65280 := by rw [Int.tdiv_eq_ediv_of_nonneg hr.1, wu16]; omega
  by_cases h1 : cw xs = 0
  · exact FnOk.go t126 [.call [0] [] (vI .u16 (cw xs)) [cur (cl xs) (bad || cb xs)], .b 8 false, .b 11 false] [0] [] rfl rfl rfl rfl rfl rfl (by simp [h1]) ⟨trivial, curWord_ok hb hl, by simp [h1], rfl, by omega, trivial⟩ trivial (.of (by rw [e]))
  · by_cases h2 : cw xs = 65280
    · exact FnOk.go t126 [.call [0] [] (vI .u16 (cw xs)) [cur (cl xs) (bad || cb xs)], .b 8 true, .b 11 false] [0] [] rfl rfl rfl rfl rfl rfl (by simp [h2]) ⟨trivial, curWord_ok hb hl, by simp [h1], by simp [h2], by omega, trivial⟩ trivial (.of (by rw [e]))
    · exact FnOk.go t126 [.call [0] [] (vI .u16 (cw xs)) [cur (cl xs) (bad || cb xs)], .b 8 true, .b 11 true] [0] [] rfl rfl rfl rfl rfl rfl (by simp [h1, h2]) ⟨trivial, curWord_ok hb hl, by simp [h1], by simp [h2], by omega, trivial⟩ trivial (.of (by rw [e]))
/-- Coils behind the byte that tells how many bytes they take. -/
def coilsOk (xs : List Int) (n : Int) : Bool := decide (xs.getD 0 0 = (xs.drop 1).length) && fit (xs.drop 1) n
theorem curCoils_ok {xs : List Int} {bad : Bool} {n : Int} (hb : Byt xs) (hl : xs.length ≤ 1000000) (hn : b64 n) : ∃ ys bad', (ys = [] ∨ bad' = true) ∧
    (bad' = (bad || decide (xs.length = 0) || !coilsOk xs n)) ∧
    FnOk Try.prog 128 [vC (.ptr 0 0), vI .i64 n] [cur xs bad] (vD (lF (if coilsOk xs n then unpackL (xs.drop 1) n.toNat else []))) [cur ys bad'] := by
  have hx := at_byt hb 0
  have hb' : Byt (xs.drop 1) := fun x hx => hb x (List.mem_of_mem_drop hx)
  have hl' : (xs.drop 1).length ≤ 1000000 := by simp; omega
  have hby := curByte_ok (bad := bad) hb
  by_cases h1 : xs.getD 0 0 = (xs.drop 1).length
  · have hu := unpack_ok hb' (by omega) hn
    have hc : coilsOk xs n = fit (xs.drop 1) n := by unfold coilsOk; rw [decide_eq_true h1, Bool.true_and]
    refine ⟨[], _, .inl rfl, rfl, ?_⟩
    rw [hc]
    generalize fit (xs.drop 1) n = ft at *
    generalize hbb : (bad || decide (xs.length = 0)) = bb at *
    have hne : (xs.getD 0 0 != ((xs.drop 1).length : Int)) = false := by simp only [bne_eq_false_iff_eq]; exact h1
    cases bb with
    | true =>
      exact FnOk.gol t128 [.call [0] [] (vI .i64 (xs.getD 0 0)) [cur (xs.drop 1) true], .b 16 false, .call [] [] (.tup [.c (.t (lF (if ft then unpackL (xs.drop 1) n.toNat else []))), .c (.t (.bool ft))]) []] [0] [] rfl rfl rfl rfl rfl rfl ⟨trivial, hby, hne, trivial, hu, trivial⟩ trivial (.refl _)
        (.cons (.box (.cons (.t (.nil 1)) (.cons (.refl _) .nil))) .nil)
    | false =>
      exact FnOk.gol t128 [.call [0] [] (vI .i64 (xs.getD 0 0)) [cur (xs.drop 1) false], .b 16 false, .call [] [] (.tup [.c (.t (lF (if ft then unpackL (xs.drop 1) n.toNat else []))), .c (.t (.bool ft))]) []] [0] [] rfl rfl rfl rfl rfl rfl ⟨trivial, hby, hne, trivial, hu, trivial⟩ trivial (.refl _)
        (.cons (.box (.cons (.t (.nil 1)) (.cons (.refl _) .nil))) .nil)
  · have hc : coilsOk xs n = false := by unfold coilsOk; rw [decide_eq_false h1, Bool.false_and]
    have hne : (xs.getD 0 0 != ((xs.drop 1).length : Int)) = true := by simp only [bne_iff_ne]; exact h1
    refine ⟨xs.drop 1, _, .inr ?_, rfl, ?_⟩
    · simp [hc]
    · rw [hc]
      refine FnOk.gol t128 [.call [0] [] (vI .i64 (xs.getD 0 0)) [cur (xs.drop 1) (bad || decide (xs.length = 0))], .b 16 true] [0] [] rfl rfl rfl rfl rfl rfl ⟨trivial, hby, hne, trivial⟩ trivial (.e (.c (.t (.nil 1)))) (.of (by simp))
/-- Words behind the byte that tells how many bytes they take. -/
def wsOf (b : List Int) (n : Nat) : List Int := (List.range n).map fun i => wAt b (2 * i)
theorem wsOf_succ (b : List Int) (n : Nat) : wsOf b (n + 1) = wsOf b n ++ [wAt b (2 * n)] := by simp [wsOf, List.range_succ]
theorem wsOf_len (b : List Int) (n : Nat) : (wsOf b n).length = n := by simp [wsOf]
def fillW (b : List Int) (i n : Nat) : List Int := wsOf b i ++ List.replicate (n - i) 0
theorem fillW_set {b : List Int} {i n : Nat} (h : i < n) : (fillW b i n).set i (wAt b (2 * i)) = fillW b (i + 1) n := by
  unfold fillW
  rw [List.set_append_right _ _ (by rw [wsOf_len]; omega), wsOf_len, Nat.sub_self, wsOf_succ, List.append_assoc]
  congr 1
  obtain ⟨m, hm⟩ : ∃ m, n - i = m + 1 := ⟨n - i - 1, by omega⟩
  rw [hm, show n - (i + 1) = m by omega]
  rfl
def wordsOk (xs : List Int) (n : Nat) : Bool := decide (xs.getD 0 0 = 2 * n ∧ (xs.drop 1).length = 2 * n)
theorem wAt_drop (b : List Int) (k : Nat) : wAt (b.drop k) 0 = wAt b k := by simp [wAt, List.getD_eq_getElem?_getD]
theorem curWords_ok {xs : List Int} {bad : Bool} {n : Nat} (hb : Byt xs) (hl : xs.length ≤ 1000000) (hn : n ≤ 65535) : ∃ ys bad', (ys = [] ∨ bad' = true) ∧
    (bad' = (bad || decide (xs.length = 0) || !wordsOk xs n)) ∧
    FnOk Try.prog 129 [vC (.ptr 0 0), vI .i64 n] [cur xs bad] (vD (lI .u16 (if wordsOk xs n then wsOf (xs.drop 1) n else []))) [cur ys bad'] := by
  have hx := at_byt hb 0
  have hb' : Byt (xs.drop 1) := fun x hx => hb x (List.mem_of_mem_drop hx)
  have hl' : (xs.drop 1).length ≤ 1000000 := by simp; omega
  have hby := curByte_ok (bad := bad) hb
  by_cases h1 : xs.getD 0 0 = 2 * n
  · by_cases h2 : (xs.drop 1).length = 2 * n
    · have hc : wordsOk xs n = true := decide_eq_true ⟨h1, h2⟩
      rw [hc]
      refine ⟨[], _, .inl rfl, rfl, ?_⟩
      generalize (bad || decide (xs.length = 0)) = bb at *
      generalize xs.drop 1 = zs at *
      refine FnOk.start t129 rfl rfl rfl ?_
      refine Tri.seq (Tri.go [] rfl trivial ?_)
      refine Tri.seq (Tri.go [.call [0] [] (vI .i64 (xs.getD 0 0)) [cur zs bb], .b 12 false, .b 21 false] rfl ⟨trivial, hby, by omega, by simp only [bne_eq_false_iff_eq]; exact h1, by omega, by simp; omega, trivial⟩ ?_)
      refine Tri.seq (Tri.go [] rfl ⟨by omega, trivial⟩ ?_)
      refine Tri.seq (Tri.seq (Tri.go [] rfl trivial ?_))
      refine Tri.block ?_
      rw [Int.toNat_natCast, rI_rep]
      refine Tri.lp (fun m ρ hl => ∃ i, m = n - i ∧ i ≤ n ∧ hl = [cur (zs.drop (2 * i)) bb, .arr 1 (rI .u16 (fillW zs i n))] ∧ keepE ρ [0, 5, 28, 29] = some [(0, vC (.ptr 0 0)), (5, vC (.sl 1 0 n)), (28, vI .i64 n), (29, vI .i64 i)]) n ⟨0, by omega, by omega, by simp [fillW, wsOf], keep_of rfl (by simp)⟩ ?_
      rintro m ρ hl' ⟨i, rfl, hi, rfl, hkk⟩
      refine Tri.keep _ hkk ?_
      by_cases h : i < n
      · have hd : Byt (zs.drop (2 * i)) := fun x hx => hb' x (List.mem_of_mem_drop hx)
        have hw := curWord_ok (bad := bb) hd (by simp; omega)
        have h3 : 2 ≤ (zs.drop (2 * i)).length := by simp; omega
        rw [if_pos h3, if_pos h3, wAt_drop, List.drop_drop, show (bb || decide ((zs.drop (2 * i)).length < 2)) = bb by rw [decide_eq_false (by omega), Bool.or_false]] at hw
        refine Tri.go [.b 30 true, .call [0] [] (vI .u16 (wAt zs (2 * i))) [cur (zs.drop (2 * i + 2)) bb]] rfl ?_ (again (n - (i + 1)) (by omega) ⟨i + 1, rfl, by omega, ?_, keep_of rfl (by simp)⟩)
        · simp only [true_and, and_true, Nat.zero_add, Int.toNat_natCast]
          exact ⟨by simp; omega, hw, ⟨by omega, by omega⟩, by simp [fillW, wsOf_len]; omega, by omega⟩
        · rw [Nat.zero_add, Int.toNat_natCast, rI_mod, fillW_set h, show 2 * (i + 1) = 2 * i + 2 by omega]
      · refine Tri.go [.b 30 false] rfl ⟨by simp; omega, trivial⟩ (outQ ?_)
        refine Tri.go [] rfl trivial (RetQ.of [0] [1] rfl ?_ (.e (.c (.t (.cut ?_ ?_)))) ?_)
        · simp [fillW, wsOf_len]; omega
        · simp [wsOf_len] <;> omega
        · rw [show i = n by omega]; simp [fillW, rI_take, wsOf_len, List.take_of_length_le]
        · rw [show i = n by omega, List.drop_eq_nil_of_le (by omega)]; simp
    · have hc : wordsOk xs n = false := decide_eq_false (fun h => h2 h.2)
      rw [hc]
      refine ⟨xs.drop 1, _, .inr (by simp), rfl, ?_⟩
      generalize (bad || decide (xs.length = 0)) = bb at *
      generalize xs.drop 1 = zs at *
      exact FnOk.gol t129 [.call [0] [] (vI .i64 (xs.getD 0 0)) [cur zs bb], .b 12 false, .b 21 true] [0] [] rfl rfl rfl rfl rfl rfl ⟨trivial, hby, by omega, by simp only [bne_eq_false_iff_eq]; exact h1, by omega, by simp; omega, trivial⟩ trivial (.e (.c (.t (.nil 1)))) (.of (by simp))
  · have hc : wordsOk xs n = false := decide_eq_false (fun h => h1 h.1)
    rw [hc]
    refine ⟨xs.drop 1, _, .inr (by simp), rfl, ?_⟩
    generalize (bad || decide (xs.length = 0)) = bb at *
    generalize xs.drop 1 = zs at *
    exact FnOk.gol t129 [.call [0] [] (vI .i64 (xs.getD 0 0)) [cur zs bb], .b 12 true] [0] [] rfl rfl rfl rfl rfl rfl ⟨trivial, hby, by omega, by simp only [bne_iff_ne]; exact h1, trivial⟩ trivial (.e (.c (.t (.nil 1)))) (.of (by simp))
end Go.Proofs.Ytheaeddojcebjaa
