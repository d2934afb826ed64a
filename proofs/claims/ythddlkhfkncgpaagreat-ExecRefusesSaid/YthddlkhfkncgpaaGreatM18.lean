/-
  Requests by two numbers.
-/
import Derived.Test.YthddlkhfkncgpaaGreatM17a
set_option maxRecDepth 100000
set_option maxHeartbeats 4000000
set_option linter.unusedVariables false
set_option linter.unusedSimpArgs false
namespace Go.Proofs.YthddlkhfkncgpaaGreat
open Go.RowKit

theorem dig_rng (k d : Int) {n : Int} (h : 0 < n) : 0 ≤ dig k d n ∧ dig k d n < n := ⟨Int.emod_nonneg _ (by omega), Int.emod_lt_of_pos _ h⟩
theorem mod_rng (k : Int) {n : Int} (h : 0 < n) : 0 ≤ k % n ∧ k % n < n := ⟨Int.emod_nonneg _ (by omega), Int.emod_lt_of_pos _ h⟩
/-- So many words, by a number. -/
def wordsG (k : Int) (n : Nat) : List Int := (List.range n).map fun (i : Nat) => k % 60000 + (i : Int)
theorem wordsG_len (k : Int) (n : Nat) : (wordsG k n).length = n := by simp [wordsG]
theorem wordsG_succ (k : Int) (n : Nat) : wordsG k (n + 1) = wordsG k n ++ [k % 60000 + n] := by simp [wordsG, List.range_succ]
theorem wordsG_wrd {k : Int} {n : Nat} (h : n ≤ 5000) : Wrd (wordsG k n) := by
  intro x hx
  have := mod_rng k (n := 60000) (by omega)
  simp only [wordsG, List.mem_map, List.mem_range] at hx
  obtain ⟨i, hi, rfl⟩ := hx
  omega
theorem wordsG_ok {k : Int} (hk : b64 k) {n : Nat} (hn : n ≤ 1000) : FnOk Tryz.prog 48 [vI .i64 k, vI .i64 n] [] (vWd (wordsG k n)) [] := by
  refine FnOk.start t48 rfl rfl rfl ?_
  refine Tri.seq (Tri.go [] rfl trivial ?_)
  refine Tri.seq (Tri.go [] rfl trivial ?_)
  refine Tri.seq (Tri.seq (Tri.go [] rfl trivial ?_))
  refine Tri.block ?_
  refine Tri.own 5 1 (by omega) rfl ?_
  refine Tri.lp (fun q ρ hl => ∃ i, q = n - i ∧ i ≤ n ∧ hl = [oI .u16 (wordsG k i)] ∧ keepE ρ [0, 1, 5, 6] = some [(0, vI .i64 k), (1, vI .i64 n), (5, vC (.sl 0 0 i)), (6, vI .i64 i)]) n ⟨0, by omega, by omega, rfl, keep_of rfl (by simp)⟩ ?_
  rintro q ρ hl' ⟨i, rfl, hi, rfl, hkk⟩
  refine Tri.keep _ hkk ?_
  by_cases h2 : i < n
  · have hw := within_ok (k := k) (n := 60000) hk (by omega)
    have hr := mod_rng k (n := 60000) (by omega)
    have hu := wordsG_len k i
    refine Tri.seq (Tri.go [.b 9 true] rfl ⟨decide_eq_true (by omega), trivial⟩ ?_)
    refine Tri.seq (Tri.block (Tri.tree (.f [] hw .nil) rfl ⟨trivial, by simp [leVs, leP, leE, leC], by omega, trivial, ⟨⟨rfl, by simp⟩, trivial⟩, ⟨.inr rfl, rfl, by simp [hu], by simp, by omega, by omega⟩, ?_⟩))
    refine Tri.let [1] [] [0, 1, 5, 6] rfl trivial ?_
    refine Tri.go [] rfl ⟨by omega, trivial⟩ (again (n - (i + 1)) (by omega) ⟨i + 1, rfl, by omega, ?_, keep_of rfl (by simp)⟩)
    rw [oI, wordsG_succ, ← rI_app, wu16, Int.emod_eq_of_lt (by omega) (by omega)]
    rfl
  · refine Tri.go [.b 9 false] rfl ⟨decide_eq_false (by omega), trivial⟩ (outQ ?_)
    have : i = n := by omega
    subst this
    refine Tri.treeR (.a (.call [] [0] .u []) .nil) rfl ?_
    simp [leP, leE, leC, wordsG_len, rI_take, List.take_of_length_le]
    exact .nil
theorem wordsGO_ok {k : Int} (hk : b64 k) {n : Nat} (hn : n ≤ 1000) : FnOk Tryz.prog 48 [vI .i64 k, vI .i64 n] [] (vC (.sl 0 0 n)) [oI .u16 (wordsG k n)] := by
  refine FnOk.start t48 rfl rfl rfl ?_
  refine Tri.seq (Tri.go [] rfl trivial ?_)
  refine Tri.seq (Tri.go [] rfl trivial ?_)
  refine Tri.seq (Tri.seq (Tri.go [] rfl trivial ?_))
  refine Tri.block ?_
  refine Tri.own 5 1 (by omega) rfl ?_
  refine Tri.lp (fun q ρ hl => ∃ i, q = n - i ∧ i ≤ n ∧ hl = [oI .u16 (wordsG k i)] ∧ keepE ρ [0, 1, 5, 6] = some [(0, vI .i64 k), (1, vI .i64 n), (5, vC (.sl 0 0 i)), (6, vI .i64 i)]) n ⟨0, by omega, by omega, rfl, keep_of rfl (by simp)⟩ ?_
  rintro q ρ hl' ⟨i, rfl, hi, rfl, hkk⟩
  refine Tri.keep _ hkk ?_
  by_cases h2 : i < n
  · have hw := within_ok (k := k) (n := 60000) hk (by omega)
    have hr := mod_rng k (n := 60000) (by omega)
    have hu := wordsG_len k i
    refine Tri.seq (Tri.go [.b 9 true] rfl ⟨decide_eq_true (by omega), trivial⟩ ?_)
    refine Tri.seq (Tri.block (Tri.tree (.f [] hw .nil) rfl ⟨trivial, by simp [leVs, leP, leE, leC], by omega, trivial, ⟨⟨rfl, by simp⟩, trivial⟩, ⟨.inr rfl, rfl, by simp [hu], by simp, by omega, by omega⟩, ?_⟩))
    refine Tri.let [1] [] [0, 1, 5, 6] rfl trivial ?_
    refine Tri.go [] rfl ⟨by omega, trivial⟩ (again (n - (i + 1)) (by omega) ⟨i + 1, rfl, by omega, ?_, keep_of rfl (by simp)⟩)
    rw [oI, wordsG_succ, ← rI_app, wu16, Int.emod_eq_of_lt (by omega) (by omega)]
    rfl
  · refine Tri.go [.b 9 false] rfl ⟨decide_eq_false (by omega), trivial⟩ (outQ ?_)
    have : i = n := by omega
    subst this
    refine Tri.treeR (.a (.call [0] [] .u []) .nil) rfl ?_
    simp [leP, leE, leC]
    exact .of rfl
/-- A request's cells, with other lists. -/
abbrev Ask.csN (a : Ask) (b1 b2 : C) : List C := [.t (.int .i64 a.fn), .t (.int .i64 a.at_), .t (.int .i64 a.n), .t (.int .u16 a.val), .t (.int .u16 a.and_), .t (.int .u16 a.or_), b1, b2, .t (.int .i64 a.ra), .t (.int .i64 a.rn), .t (.int .i64 a.code), .t (.int .i64 a.obj)]
def aAt (k : Int) : Int := if dig k 3840 12 = 0 then dig k 46080 65536 else dig k 16 40
def aN (k : Int) : Int := 1 + dig k 640 6
def aC (k v : Int) : Int × Int := if dig v 64 3 = 0 then (dig k 16 20, 14 + aN k) else (aAt k, aN k)
def bitsG (v : Int) (n : Nat) : List Bool := (List.range n).map fun (i : Nat) => decide (v % (7 + i) % 2 = 1)
theorem bitsG_len (v : Int) (n : Nat) : (bitsG v n).length = n := by simp [bitsG]
theorem bitsG_succ (v : Int) (n : Nat) : bitsG v (n + 1) = bitsG v n ++ [decide (v % (7 + n) % 2 = 1)] := by simp [bitsG, List.range_succ]
def askGw (w k v : Int) : Ask :=
  if w = 0 then { fn := 1, at_ := aAt k, n := aN k }
  else if w = 1 then { fn := 2, at_ := aAt k, n := aN k }
  else if w = 2 ∨ w = 3 ∨ w = 4 then { fn := 3, at_ := aAt k, n := aN k }
  else if w = 5 then { fn := 4, at_ := aAt k, n := aN k }
  else if w = 6 then { fn := 5, at_ := aAt k, val := v % 2 }
  else if w = 7 ∨ w = 8 ∨ w = 9 then { fn := 6, at_ := aAt k, val := v % 60000 }
  else if w = 10 then { fn := 15, at_ := (aC k v).1, n := (aC k v).2, bits := bitsG v (aC k v).2.toNat }
  else if w = 11 ∨ w = 12 then { fn := 16, at_ := aAt k, n := aN k, words := wordsG v (aN k).toNat }
  else if w = 13 then { fn := 22, at_ := aAt k, and_ := v % 65536, or_ := dig v 65536 65536 }
  else if w = 14 then { fn := 23, at_ := aAt k, n := aN k, words := wordsG v (aN k).toNat, ra := v % 40, rn := 1 + dig v 40 6 }
  else { fn := 43, code := 1 + v % 4, obj := dig v 4 5 }
/-- The request by two numbers. -/
def askG (k v : Int) : Ask := askGw (k % 16) k v
theorem aAt_rng (k : Int) : 0 ≤ aAt k ∧ aAt k ≤ 65535 := by
  have h1 := dig_rng k 46080 (n := 65536) (by omega)
  have h2 := dig_rng k 16 (n := 40) (by omega)
  unfold aAt; split <;> omega
theorem aN_rng (k : Int) : 1 ≤ aN k ∧ aN k ≤ 6 := by
  have h1 := dig_rng k 640 (n := 6) (by omega)
  unfold aN; omega
theorem aC_rng (k v : Int) : (0 ≤ (aC k v).1 ∧ (aC k v).1 ≤ 65535) ∧ 1 ≤ (aC k v).2 ∧ (aC k v).2 ≤ 20 := by
  have h1 := dig_rng k 16 (n := 20) (by omega)
  have h2 := aN_rng k
  have h3 := aAt_rng k
  unfold aC; split <;> simp <;> omega
theorem askG_fit (k v : Int) : (askG k v).Fit ∧ (askG k v).right = true := by
  have h1 := aAt_rng k
  have h2 := aN_rng k
  have h3 := aC_rng k v
  have hw := mod_rng k (n := 16) (by omega)
  have w2' := mod_rng v (n := 2) (by omega)
  have w4 := mod_rng v (n := 4) (by omega)
  have w40 := mod_rng v (n := 40) (by omega)
  have w6 := mod_rng v (n := 60000) (by omega)
  have w65 := mod_rng v (n := 65536) (by omega)
  have d65 := dig_rng v 65536 (n := 65536) (by omega)
  have d40 := dig_rng v 40 (n := 6) (by omega)
  have d4 := dig_rng v 4 (n := 5) (by omega)
  have hwd : Wrd (wordsG v (aN k).toNat) := wordsG_wrd (by omega)
  have hwl := wordsG_len v (aN k).toNat
  have hbl := bitsG_len v (aC k v).2.toNat
  have hz := wrd_nil
  unfold askG
  generalize k % 16 = w at hw
  have : w = 0 ∨ w = 1 ∨ w = 2 ∨ w = 3 ∨ w = 4 ∨ w = 5 ∨ w = 6 ∨ w = 7 ∨ w = 8 ∨ w = 9 ∨ w = 10 ∨ w = 11 ∨ w = 12 ∨ w = 13 ∨ w = 14 ∨ w = 15 := by omega
  rcases this with rfl | rfl | rfl | rfl | rfl | rfl | rfl | rfl | rfl | rfl | rfl | rfl | rfl | rfl | rfl | rfl
  all_goals
    simp only [askGw]
    refine ⟨?_, ?_⟩
    · refine fitA ?_ ?_ ?_ ?_ ?_ ?_ ?_ ?_ ?_ ?_ ?_ ?_ ?_ <;> simp [hwl, hbl, b64] <;> first | assumption | omega
    · simp [Ask.right, Ask.same, Ask.only, Ask.rest, known, placeB, countsB, kMost, hwl, hbl] <;> omega

theorem askGn_0 {k v : Int} (hk : b64 k) (hv : b64 v) (hw : k % 16 = 0) : FnOk Tryz.prog 12 [vI .i64 k, vI .i64 v] [] (.e (.agg ((askG k v).csN (.t .nil) (.t .nil)))) [] := by
  have hw16 := within_ok (k := k) (n := 16) hk (by omega)
  rw [hw] at hw16
  have hd16 := digit_ok (k := k) (d := 16) (n := 40) hk (by omega) (by omega)
  have hd640 := digit_ok (k := k) (d := 640) (n := 6) hk (by omega) (by omega)
  have hd3840 := digit_ok (k := k) (d := 3840) (n := 12) hk (by omega) (by omega)
  have hd46080 := digit_ok (k := k) (d := 46080) (n := 65536) hk (by omega) (by omega)
  have e : askG k v = askGw 0 k v := by rw [askG, hw]
  rw [e]
  have r0 := dig_rng k 640 (n := 6) (by omega)
  refine FnOk.tree t12 (.f [] hd16 (.f [] hd640 (.f [] hd3840 (.br 16 (.f [] hd46080 (.f [] hw16 .nil)) (.f [] hw16 .nil))))) rfl rfl rfl rfl ?_
  simp +contextual [leVs, leP, leE, leL, leC, eqOs, askGw, aAt, aN, wu16]
  all_goals (repeat (first | omega | exact LeOs.of rfl | (intro _) | apply And.intro))
theorem askG_0 {k v : Int} (hk : b64 k) (hv : b64 v) (hw : k % 16 = 0) : FnOk Tryz.prog 12 [vI .i64 k, vI .i64 v] [] (askG k v).v [] :=
  (askGn_0 hk hv hw).wk (LeVs.refl _) (leP_ok (by
    have e : askG k v = askGw 0 k v := by rw [askG, hw]
    rw [e]
    simp [leP, leE, leL, leC, askGw]))
theorem askGn_1 {k v : Int} (hk : b64 k) (hv : b64 v) (hw : k % 16 = 1) : FnOk Tryz.prog 12 [vI .i64 k, vI .i64 v] [] (.e (.agg ((askG k v).csN (.t .nil) (.t .nil)))) [] := by
  have hw16 := within_ok (k := k) (n := 16) hk (by omega)
  rw [hw] at hw16
  have hd16 := digit_ok (k := k) (d := 16) (n := 40) hk (by omega) (by omega)
  have hd640 := digit_ok (k := k) (d := 640) (n := 6) hk (by omega) (by omega)
  have hd3840 := digit_ok (k := k) (d := 3840) (n := 12) hk (by omega) (by omega)
  have hd46080 := digit_ok (k := k) (d := 46080) (n := 65536) hk (by omega) (by omega)
  have e : askG k v = askGw 1 k v := by rw [askG, hw]
  rw [e]
  have r0 := dig_rng k 640 (n := 6) (by omega)
  refine FnOk.tree t12 (.f [] hd16 (.f [] hd640 (.f [] hd3840 (.br 16 (.f [] hd46080 (.f [] hw16 .nil)) (.f [] hw16 .nil))))) rfl rfl rfl rfl ?_
  simp +contextual [leVs, leP, leE, leL, leC, eqOs, askGw, aAt, aN, wu16]
  all_goals (repeat (first | omega | exact LeOs.of rfl | (intro _) | apply And.intro))
theorem askG_1 {k v : Int} (hk : b64 k) (hv : b64 v) (hw : k % 16 = 1) : FnOk Tryz.prog 12 [vI .i64 k, vI .i64 v] [] (askG k v).v [] :=
  (askGn_1 hk hv hw).wk (LeVs.refl _) (leP_ok (by
    have e : askG k v = askGw 1 k v := by rw [askG, hw]
    rw [e]
    simp [leP, leE, leL, leC, askGw]))
theorem askGn_2 {k v : Int} (hk : b64 k) (hv : b64 v) (hw : k % 16 = 2) : FnOk Tryz.prog 12 [vI .i64 k, vI .i64 v] [] (.e (.agg ((askG k v).csN (.t .nil) (.t .nil)))) [] := by
  have hw16 := within_ok (k := k) (n := 16) hk (by omega)
  rw [hw] at hw16
  have hd16 := digit_ok (k := k) (d := 16) (n := 40) hk (by omega) (by omega)
  have hd640 := digit_ok (k := k) (d := 640) (n := 6) hk (by omega) (by omega)
  have hd3840 := digit_ok (k := k) (d := 3840) (n := 12) hk (by omega) (by omega)
  have hd46080 := digit_ok (k := k) (d := 46080) (n := 65536) hk (by omega) (by omega)
  have e : askG k v = askGw 2 k v := by rw [askG, hw]
  rw [e]
  have r0 := dig_rng k 640 (n := 6) (by omega)
  refine FnOk.tree t12 (.f [] hd16 (.f [] hd640 (.f [] hd3840 (.br 16 (.f [] hd46080 (.f [] hw16 .nil)) (.f [] hw16 .nil))))) rfl rfl rfl rfl ?_
  simp +contextual [leVs, leP, leE, leL, leC, eqOs, askGw, aAt, aN, wu16]
  all_goals (repeat (first | omega | exact LeOs.of rfl | (intro _) | apply And.intro))
theorem askG_2 {k v : Int} (hk : b64 k) (hv : b64 v) (hw : k % 16 = 2) : FnOk Tryz.prog 12 [vI .i64 k, vI .i64 v] [] (askG k v).v [] :=
  (askGn_2 hk hv hw).wk (LeVs.refl _) (leP_ok (by
    have e : askG k v = askGw 2 k v := by rw [askG, hw]
    rw [e]
    simp [leP, leE, leL, leC, askGw]))
theorem askGn_3 {k v : Int} (hk : b64 k) (hv : b64 v) (hw : k % 16 = 3) : FnOk Tryz.prog 12 [vI .i64 k, vI .i64 v] [] (.e (.agg ((askG k v).csN (.t .nil) (.t .nil)))) [] := by
  have hw16 := within_ok (k := k) (n := 16) hk (by omega)
  rw [hw] at hw16
  have hd16 := digit_ok (k := k) (d := 16) (n := 40) hk (by omega) (by omega)
  have hd640 := digit_ok (k := k) (d := 640) (n := 6) hk (by omega) (by omega)
  have hd3840 := digit_ok (k := k) (d := 3840) (n := 12) hk (by omega) (by omega)
  have hd46080 := digit_ok (k := k) (d := 46080) (n := 65536) hk (by omega) (by omega)
  have e : askG k v = askGw 3 k v := by rw [askG, hw]
  rw [e]
  have r0 := dig_rng k 640 (n := 6) (by omega)
  refine FnOk.tree t12 (.f [] hd16 (.f [] hd640 (.f [] hd3840 (.br 16 (.f [] hd46080 (.f [] hw16 .nil)) (.f [] hw16 .nil))))) rfl rfl rfl rfl ?_
  simp +contextual [leVs, leP, leE, leL, leC, eqOs, askGw, aAt, aN, wu16]
  all_goals (repeat (first | omega | exact LeOs.of rfl | (intro _) | apply And.intro))
theorem askG_3 {k v : Int} (hk : b64 k) (hv : b64 v) (hw : k % 16 = 3) : FnOk Tryz.prog 12 [vI .i64 k, vI .i64 v] [] (askG k v).v [] :=
  (askGn_3 hk hv hw).wk (LeVs.refl _) (leP_ok (by
    have e : askG k v = askGw 3 k v := by rw [askG, hw]
    rw [e]
    simp [leP, leE, leL, leC, askGw]))
theorem askGn_4 {k v : Int} (hk : b64 k) (hv : b64 v) (hw : k % 16 = 4) : FnOk Tryz.prog 12 [vI .i64 k, vI .i64 v] [] (.e (.agg ((askG k v).csN (.t .nil) (.t .nil)))) [] := by
  have hw16 := within_ok (k := k) (n := 16) hk (by omega)
  rw [hw] at hw16
  have hd16 := digit_ok (k := k) (d := 16) (n := 40) hk (by omega) (by omega)
  have hd640 := digit_ok (k := k) (d := 640) (n := 6) hk (by omega) (by omega)
  have hd3840 := digit_ok (k := k) (d := 3840) (n := 12) hk (by omega) (by omega)
  have hd46080 := digit_ok (k := k) (d := 46080) (n := 65536) hk (by omega) (by omega)
  have e : askG k v = askGw 4 k v := by rw [askG, hw]
  rw [e]
  have r0 := dig_rng k 640 (n := 6) (by omega)
  refine FnOk.tree t12 (.f [] hd16 (.f [] hd640 (.f [] hd3840 (.br 16 (.f [] hd46080 (.f [] hw16 .nil)) (.f [] hw16 .nil))))) rfl rfl rfl rfl ?_
  simp +contextual [leVs, leP, leE, leL, leC, eqOs, askGw, aAt, aN, wu16]
  all_goals (repeat (first | omega | exact LeOs.of rfl | (intro _) | apply And.intro))
theorem askG_4 {k v : Int} (hk : b64 k) (hv : b64 v) (hw : k % 16 = 4) : FnOk Tryz.prog 12 [vI .i64 k, vI .i64 v] [] (askG k v).v [] :=
  (askGn_4 hk hv hw).wk (LeVs.refl _) (leP_ok (by
    have e : askG k v = askGw 4 k v := by rw [askG, hw]
    rw [e]
    simp [leP, leE, leL, leC, askGw]))
theorem askGn_5 {k v : Int} (hk : b64 k) (hv : b64 v) (hw : k % 16 = 5) : FnOk Tryz.prog 12 [vI .i64 k, vI .i64 v] [] (.e (.agg ((askG k v).csN (.t .nil) (.t .nil)))) [] := by
  have hw16 := within_ok (k := k) (n := 16) hk (by omega)
  rw [hw] at hw16
  have hd16 := digit_ok (k := k) (d := 16) (n := 40) hk (by omega) (by omega)
  have hd640 := digit_ok (k := k) (d := 640) (n := 6) hk (by omega) (by omega)
  have hd3840 := digit_ok (k := k) (d := 3840) (n := 12) hk (by omega) (by omega)
  have hd46080 := digit_ok (k := k) (d := 46080) (n := 65536) hk (by omega) (by omega)
  have e : askG k v = askGw 5 k v := by rw [askG, hw]
  rw [e]
  have r0 := dig_rng k 640 (n := 6) (by omega)
  refine FnOk.tree t12 (.f [] hd16 (.f [] hd640 (.f [] hd3840 (.br 16 (.f [] hd46080 (.f [] hw16 .nil)) (.f [] hw16 .nil))))) rfl rfl rfl rfl ?_
  simp +contextual [leVs, leP, leE, leL, leC, eqOs, askGw, aAt, aN, wu16]
  all_goals (repeat (first | omega | exact LeOs.of rfl | (intro _) | apply And.intro))
theorem askG_5 {k v : Int} (hk : b64 k) (hv : b64 v) (hw : k % 16 = 5) : FnOk Tryz.prog 12 [vI .i64 k, vI .i64 v] [] (askG k v).v [] :=
  (askGn_5 hk hv hw).wk (LeVs.refl _) (leP_ok (by
    have e : askG k v = askGw 5 k v := by rw [askG, hw]
    rw [e]
    simp [leP, leE, leL, leC, askGw]))
theorem askGn_6 {k v : Int} (hk : b64 k) (hv : b64 v) (hw : k % 16 = 6) : FnOk Tryz.prog 12 [vI .i64 k, vI .i64 v] [] (.e (.agg ((askG k v).csN (.t .nil) (.t .nil)))) [] := by
  have hw16 := within_ok (k := k) (n := 16) hk (by omega)
  rw [hw] at hw16
  have hd16 := digit_ok (k := k) (d := 16) (n := 40) hk (by omega) (by omega)
  have hd640 := digit_ok (k := k) (d := 640) (n := 6) hk (by omega) (by omega)
  have hd3840 := digit_ok (k := k) (d := 3840) (n := 12) hk (by omega) (by omega)
  have hd46080 := digit_ok (k := k) (d := 46080) (n := 65536) hk (by omega) (by omega)
  have hw2 := within_ok (k := v) (n := 2) hv (by omega)
  have r2 := mod_rng v (n := 2) (by omega)
  have e : askG k v = askGw 6 k v := by rw [askG, hw]
  rw [e]
  have r0 := dig_rng k 640 (n := 6) (by omega)
  refine FnOk.tree t12 (.f [] hd16 (.f [] hd640 (.f [] hd3840 (.br 16 (.f [] hd46080 (.f [] hw16 (.f [] hw2 .nil))) (.f [] hw16 (.f [] hw2 .nil)))))) rfl rfl rfl rfl ?_
  simp +contextual [leVs, leP, leE, leL, leC, eqOs, askGw, aAt, aN, wu16]
  all_goals (repeat (first | omega | exact LeOs.of rfl | (intro _) | apply And.intro))
theorem askG_6 {k v : Int} (hk : b64 k) (hv : b64 v) (hw : k % 16 = 6) : FnOk Tryz.prog 12 [vI .i64 k, vI .i64 v] [] (askG k v).v [] :=
  (askGn_6 hk hv hw).wk (LeVs.refl _) (leP_ok (by
    have e : askG k v = askGw 6 k v := by rw [askG, hw]
    rw [e]
    simp [leP, leE, leL, leC, askGw]))
theorem askGn_7 {k v : Int} (hk : b64 k) (hv : b64 v) (hw : k % 16 = 7) : FnOk Tryz.prog 12 [vI .i64 k, vI .i64 v] [] (.e (.agg ((askG k v).csN (.t .nil) (.t .nil)))) [] := by
  have hw16 := within_ok (k := k) (n := 16) hk (by omega)
  rw [hw] at hw16
  have hd16 := digit_ok (k := k) (d := 16) (n := 40) hk (by omega) (by omega)
  have hd640 := digit_ok (k := k) (d := 640) (n := 6) hk (by omega) (by omega)
  have hd3840 := digit_ok (k := k) (d := 3840) (n := 12) hk (by omega) (by omega)
  have hd46080 := digit_ok (k := k) (d := 46080) (n := 65536) hk (by omega) (by omega)
  have hw60000 := within_ok (k := v) (n := 60000) hv (by omega)
  have r2 := mod_rng v (n := 60000) (by omega)
  have e : askG k v = askGw 7 k v := by rw [askG, hw]
  rw [e]
  have r0 := dig_rng k 640 (n := 6) (by omega)
  refine FnOk.tree t12 (.f [] hd16 (.f [] hd640 (.f [] hd3840 (.br 16 (.f [] hd46080 (.f [] hw16 (.f [] hw60000 .nil))) (.f [] hw16 (.f [] hw60000 .nil)))))) rfl rfl rfl rfl ?_
  simp +contextual [leVs, leP, leE, leL, leC, eqOs, askGw, aAt, aN, wu16]
  all_goals (repeat (first | omega | exact LeOs.of rfl | (intro _) | apply And.intro))
theorem askG_7 {k v : Int} (hk : b64 k) (hv : b64 v) (hw : k % 16 = 7) : FnOk Tryz.prog 12 [vI .i64 k, vI .i64 v] [] (askG k v).v [] :=
  (askGn_7 hk hv hw).wk (LeVs.refl _) (leP_ok (by
    have e : askG k v = askGw 7 k v := by rw [askG, hw]
    rw [e]
    simp [leP, leE, leL, leC, askGw]))
theorem askGn_8 {k v : Int} (hk : b64 k) (hv : b64 v) (hw : k % 16 = 8) : FnOk Tryz.prog 12 [vI .i64 k, vI .i64 v] [] (.e (.agg ((askG k v).csN (.t .nil) (.t .nil)))) [] := by
  have hw16 := within_ok (k := k) (n := 16) hk (by omega)
  rw [hw] at hw16
  have hd16 := digit_ok (k := k) (d := 16) (n := 40) hk (by omega) (by omega)
  have hd640 := digit_ok (k := k) (d := 640) (n := 6) hk (by omega) (by omega)
  have hd3840 := digit_ok (k := k) (d := 3840) (n := 12) hk (by omega) (by omega)
  have hd46080 := digit_ok (k := k) (d := 46080) (n := 65536) hk (by omega) (by omega)
  have hw60000 := within_ok (k := v) (n := 60000) hv (by omega)
  have r2 := mod_rng v (n := 60000) (by omega)
  have e : askG k v = askGw 8 k v := by rw [askG, hw]
  rw [e]
  have r0 := dig_rng k 640 (n := 6) (by omega)
  refine FnOk.tree t12 (.f [] hd16 (.f [] hd640 (.f [] hd3840 (.br 16 (.f [] hd46080 (.f [] hw16 (.f [] hw60000 .nil))) (.f [] hw16 (.f [] hw60000 .nil)))))) rfl rfl rfl rfl ?_
  simp +contextual [leVs, leP, leE, leL, leC, eqOs, askGw, aAt, aN, wu16]
  all_goals (repeat (first | omega | exact LeOs.of rfl | (intro _) | apply And.intro))
theorem askG_8 {k v : Int} (hk : b64 k) (hv : b64 v) (hw : k % 16 = 8) : FnOk Tryz.prog 12 [vI .i64 k, vI .i64 v] [] (askG k v).v [] :=
  (askGn_8 hk hv hw).wk (LeVs.refl _) (leP_ok (by
    have e : askG k v = askGw 8 k v := by rw [askG, hw]
    rw [e]
    simp [leP, leE, leL, leC, askGw]))
theorem askGn_9 {k v : Int} (hk : b64 k) (hv : b64 v) (hw : k % 16 = 9) : FnOk Tryz.prog 12 [vI .i64 k, vI .i64 v] [] (.e (.agg ((askG k v).csN (.t .nil) (.t .nil)))) [] := by
  have hw16 := within_ok (k := k) (n := 16) hk (by omega)
  rw [hw] at hw16
  have hd16 := digit_ok (k := k) (d := 16) (n := 40) hk (by omega) (by omega)
  have hd640 := digit_ok (k := k) (d := 640) (n := 6) hk (by omega) (by omega)
  have hd3840 := digit_ok (k := k) (d := 3840) (n := 12) hk (by omega) (by omega)
  have hd46080 := digit_ok (k := k) (d := 46080) (n := 65536) hk (by omega) (by omega)
  have hw60000 := within_ok (k := v) (n := 60000) hv (by omega)
  have r2 := mod_rng v (n := 60000) (by omega)
  have e : askG k v = askGw 9 k v := by rw [askG, hw]
  rw [e]
  have r0 := dig_rng k 640 (n := 6) (by omega)
  refine FnOk.tree t12 (.f [] hd16 (.f [] hd640 (.f [] hd3840 (.br 16 (.f [] hd46080 (.f [] hw16 (.f [] hw60000 .nil))) (.f [] hw16 (.f [] hw60000 .nil)))))) rfl rfl rfl rfl ?_
  simp +contextual [leVs, leP, leE, leL, leC, eqOs, askGw, aAt, aN, wu16]
  all_goals (repeat (first | omega | exact LeOs.of rfl | (intro _) | apply And.intro))
theorem askG_9 {k v : Int} (hk : b64 k) (hv : b64 v) (hw : k % 16 = 9) : FnOk Tryz.prog 12 [vI .i64 k, vI .i64 v] [] (askG k v).v [] :=
  (askGn_9 hk hv hw).wk (LeVs.refl _) (leP_ok (by
    have e : askG k v = askGw 9 k v := by rw [askG, hw]
    rw [e]
    simp [leP, leE, leL, leC, askGw]))
theorem askGn_11 {k v : Int} (hk : b64 k) (hv : b64 v) (hw : k % 16 = 11) : FnOk Tryz.prog 12 [vI .i64 k, vI .i64 v] [] (.e (.agg ((askG k v).csN (.t .nil) (.t (lI .u16 (askG k v).words))))) [] := by
  have hw16 := within_ok (k := k) (n := 16) hk (by omega)
  rw [hw] at hw16
  have hd16 := digit_ok (k := k) (d := 16) (n := 40) hk (by omega) (by omega)
  have hd640 := digit_ok (k := k) (d := 640) (n := 6) hk (by omega) (by omega)
  have hd3840 := digit_ok (k := k) (d := 3840) (n := 12) hk (by omega) (by omega)
  have hd46080 := digit_ok (k := k) (d := 46080) (n := 65536) hk (by omega) (by omega)
  have hN := aN_rng k
  have hws := wordsG_ok (k := v) hv (n := (aN k).toNat) (by omega)
  rw [show ((aN k).toNat : Int) = aN k by omega] at hws
  have hwl := wordsG_len v (aN k).toNat
  have e : askG k v = askGw 11 k v := by rw [askG, hw]
  rw [e]
  have r0 := dig_rng k 640 (n := 6) (by omega)
  refine FnOk.tree t12 (.f [] hd16 (.f [] hd640 (.f [] hd3840 (.br 16 (.f [] hd46080 (.f [] hw16 (.f [] hws .nil))) (.f [] hw16 (.f [] hws .nil)))))) rfl rfl rfl rfl ?_
  simp +contextual [leVs, leP, leE, leL, leC, eqOs, askGw, aAt, aN, wu16, wordsG_len]
  all_goals (repeat (first | omega | exact LeOs.of rfl | (intro _) | apply And.intro))
theorem askGO_11 {k v : Int} (hk : b64 k) (hv : b64 v) (hw : k % 16 = 11) : FnOk Tryz.prog 12 [vI .i64 k, vI .i64 v] [] (.e (.agg ((askG k v).csN (.t .nil) (.sl 0 0 (askG k v).words.length)))) [oI .u16 (askG k v).words] := by
  have hw16 := within_ok (k := k) (n := 16) hk (by omega)
  rw [hw] at hw16
  have hd16 := digit_ok (k := k) (d := 16) (n := 40) hk (by omega) (by omega)
  have hd640 := digit_ok (k := k) (d := 640) (n := 6) hk (by omega) (by omega)
  have hd3840 := digit_ok (k := k) (d := 3840) (n := 12) hk (by omega) (by omega)
  have hd46080 := digit_ok (k := k) (d := 46080) (n := 65536) hk (by omega) (by omega)
  have hN := aN_rng k
  have hws := wordsGO_ok (k := v) hv (n := (aN k).toNat) (by omega)
  rw [show ((aN k).toNat : Int) = aN k by omega] at hws
  have hwl := wordsG_len v (aN k).toNat
  have e : askG k v = askGw 11 k v := by rw [askG, hw]
  rw [e]
  have r0 := dig_rng k 640 (n := 6) (by omega)
  refine FnOk.tree t12 (.f [] hd16 (.f [] hd640 (.f [] hd3840 (.br 16 (.f [] hd46080 (.f [] hw16 (.o [] [] hws (.a (.call [2] [] .u []) .nil)))) (.f [] hw16 (.o [] [] hws (.a (.call [2] [] .u []) .nil))))))) rfl rfl rfl rfl ?_
  simp +contextual [leVs, leP, leE, leL, leC, eqOs, askGw, aAt, aN, wu16, wordsG_len]
  all_goals (repeat (first | omega | exact LeOs.of rfl | (intro _) | apply And.intro))
theorem askG_11 {k v : Int} (hk : b64 k) (hv : b64 v) (hw : k % 16 = 11) : FnOk Tryz.prog 12 [vI .i64 k, vI .i64 v] [] (askG k v).v [] :=
  (askGn_11 hk hv hw).wk (LeVs.refl _) (leP_ok (by
    have e : askG k v = askGw 11 k v := by rw [askG, hw]
    rw [e]
    simp [leP, leE, leL, leC, askGw]))
theorem askGn_12 {k v : Int} (hk : b64 k) (hv : b64 v) (hw : k % 16 = 12) : FnOk Tryz.prog 12 [vI .i64 k, vI .i64 v] [] (.e (.agg ((askG k v).csN (.t .nil) (.t (lI .u16 (askG k v).words))))) [] := by
  have hw16 := within_ok (k := k) (n := 16) hk (by omega)
  rw [hw] at hw16
  have hd16 := digit_ok (k := k) (d := 16) (n := 40) hk (by omega) (by omega)
  have hd640 := digit_ok (k := k) (d := 640) (n := 6) hk (by omega) (by omega)
  have hd3840 := digit_ok (k := k) (d := 3840) (n := 12) hk (by omega) (by omega)
  have hd46080 := digit_ok (k := k) (d := 46080) (n := 65536) hk (by omega) (by omega)
  have hN := aN_rng k
  have hws := wordsG_ok (k := v) hv (n := (aN k).toNat) (by omega)
  rw [show ((aN k).toNat : Int) = aN k by omega] at hws
  have hwl := wordsG_len v (aN k).toNat
  have e : askG k v = askGw 12 k v := by rw [askG, hw]
  rw [e]
  have r0 := dig_rng k 640 (n := 6) (by omega)
  refine FnOk.tree t12 (.f [] hd16 (.f [] hd640 (.f [] hd3840 (.br 16 (.f [] hd46080 (.f [] hw16 (.f [] hws .nil))) (.f [] hw16 (.f [] hws .nil)))))) rfl rfl rfl rfl ?_
  simp +contextual [leVs, leP, leE, leL, leC, eqOs, askGw, aAt, aN, wu16, wordsG_len]
  all_goals (repeat (first | omega | exact LeOs.of rfl | (intro _) | apply And.intro))
theorem askGO_12 {k v : Int} (hk : b64 k) (hv : b64 v) (hw : k % 16 = 12) : FnOk Tryz.prog 12 [vI .i64 k, vI .i64 v] [] (.e (.agg ((askG k v).csN (.t .nil) (.sl 0 0 (askG k v).words.length)))) [oI .u16 (askG k v).words] := by
  have hw16 := within_ok (k := k) (n := 16) hk (by omega)
  rw [hw] at hw16
  have hd16 := digit_ok (k := k) (d := 16) (n := 40) hk (by omega) (by omega)
  have hd640 := digit_ok (k := k) (d := 640) (n := 6) hk (by omega) (by omega)
  have hd3840 := digit_ok (k := k) (d := 3840) (n := 12) hk (by omega) (by omega)
  have hd46080 := digit_ok (k := k) (d := 46080) (n := 65536) hk (by omega) (by omega)
  have hN := aN_rng k
  have hws := wordsGO_ok (k := v) hv (n := (aN k).toNat) (by omega)
  rw [show ((aN k).toNat : Int) = aN k by omega] at hws
  have hwl := wordsG_len v (aN k).toNat
  have e : askG k v = askGw 12 k v := by rw [askG, hw]
  rw [e]
  have r0 := dig_rng k 640 (n := 6) (by omega)
  refine FnOk.tree t12 (.f [] hd16 (.f [] hd640 (.f [] hd3840 (.br 16 (.f [] hd46080 (.f [] hw16 (.o [] [] hws (.a (.call [2] [] .u []) .nil)))) (.f [] hw16 (.o [] [] hws (.a (.call [2] [] .u []) .nil))))))) rfl rfl rfl rfl ?_
  simp +contextual [leVs, leP, leE, leL, leC, eqOs, askGw, aAt, aN, wu16, wordsG_len]
  all_goals (repeat (first | omega | exact LeOs.of rfl | (intro _) | apply And.intro))
theorem askG_12 {k v : Int} (hk : b64 k) (hv : b64 v) (hw : k % 16 = 12) : FnOk Tryz.prog 12 [vI .i64 k, vI .i64 v] [] (askG k v).v [] :=
  (askGn_12 hk hv hw).wk (LeVs.refl _) (leP_ok (by
    have e : askG k v = askGw 12 k v := by rw [askG, hw]
    rw [e]
    simp [leP, leE, leL, leC, askGw]))
theorem askGn_13 {k v : Int} (hk : b64 k) (hv : b64 v) (hw : k % 16 = 13) : FnOk Tryz.prog 12 [vI .i64 k, vI .i64 v] [] (.e (.agg ((askG k v).csN (.t .nil) (.t .nil)))) [] := by
  have hw16 := within_ok (k := k) (n := 16) hk (by omega)
  rw [hw] at hw16
  have hd16 := digit_ok (k := k) (d := 16) (n := 40) hk (by omega) (by omega)
  have hd640 := digit_ok (k := k) (d := 640) (n := 6) hk (by omega) (by omega)
  have hd3840 := digit_ok (k := k) (d := 3840) (n := 12) hk (by omega) (by omega)
  have hd46080 := digit_ok (k := k) (d := 46080) (n := 65536) hk (by omega) (by omega)
  have hw65536 := within_ok (k := v) (n := 65536) hv (by omega)
  have r2 := mod_rng v (n := 65536) (by omega)
  have hd65536 := digit_ok (k := v) (d := 65536) (n := 65536) hv (by omega) (by omega)
  have r3 := dig_rng v 65536 (n := 65536) (by omega)
  have e : askG k v = askGw 13 k v := by rw [askG, hw]
  rw [e]
  have r0 := dig_rng k 640 (n := 6) (by omega)
  refine FnOk.tree t12 (.f [] hd16 (.f [] hd640 (.f [] hd3840 (.br 16 (.f [] hd46080 (.f [] hw16 (.f [] hw65536 (.f [] hd65536 .nil)))) (.f [] hw16 (.f [] hw65536 (.f [] hd65536 .nil))))))) rfl rfl rfl rfl ?_
  simp +contextual [leVs, leP, leE, leL, leC, eqOs, askGw, aAt, aN, wu16]
  all_goals (repeat (first | omega | exact LeOs.of rfl | (intro _) | apply And.intro))
theorem askG_13 {k v : Int} (hk : b64 k) (hv : b64 v) (hw : k % 16 = 13) : FnOk Tryz.prog 12 [vI .i64 k, vI .i64 v] [] (askG k v).v [] :=
  (askGn_13 hk hv hw).wk (LeVs.refl _) (leP_ok (by
    have e : askG k v = askGw 13 k v := by rw [askG, hw]
    rw [e]
    simp [leP, leE, leL, leC, askGw]))
theorem askGn_14 {k v : Int} (hk : b64 k) (hv : b64 v) (hw : k % 16 = 14) : FnOk Tryz.prog 12 [vI .i64 k, vI .i64 v] [] (.e (.agg ((askG k v).csN (.t .nil) (.t (lI .u16 (askG k v).words))))) [] := by
  have hw16 := within_ok (k := k) (n := 16) hk (by omega)
  rw [hw] at hw16
  have hd16 := digit_ok (k := k) (d := 16) (n := 40) hk (by omega) (by omega)
  have hd640 := digit_ok (k := k) (d := 640) (n := 6) hk (by omega) (by omega)
  have hd3840 := digit_ok (k := k) (d := 3840) (n := 12) hk (by omega) (by omega)
  have hd46080 := digit_ok (k := k) (d := 46080) (n := 65536) hk (by omega) (by omega)
  have hw40 := within_ok (k := v) (n := 40) hv (by omega)
  have hd40 := digit_ok (k := v) (d := 40) (n := 6) hv (by omega) (by omega)
  have r4 := dig_rng v 40 (n := 6) (by omega)
  have hN := aN_rng k
  have hws := wordsG_ok (k := v) hv (n := (aN k).toNat) (by omega)
  rw [show ((aN k).toNat : Int) = aN k by omega] at hws
  have hwl := wordsG_len v (aN k).toNat
  have e : askG k v = askGw 14 k v := by rw [askG, hw]
  rw [e]
  have r0 := dig_rng k 640 (n := 6) (by omega)
  refine FnOk.tree t12 (.f [] hd16 (.f [] hd640 (.f [] hd3840 (.br 16 (.f [] hd46080 (.f [] hw16 (.f [] hws (.f [] hw40 (.f [] hd40 .nil))))) (.f [] hw16 (.f [] hws (.f [] hw40 (.f [] hd40 .nil)))))))) rfl rfl rfl rfl ?_
  simp +contextual [leVs, leP, leE, leL, leC, eqOs, askGw, aAt, aN, wu16, wordsG_len]
  all_goals (repeat (first | omega | exact LeOs.of rfl | (intro _) | apply And.intro))
theorem askGO_14 {k v : Int} (hk : b64 k) (hv : b64 v) (hw : k % 16 = 14) : FnOk Tryz.prog 12 [vI .i64 k, vI .i64 v] [] (.e (.agg ((askG k v).csN (.t .nil) (.sl 0 0 (askG k v).words.length)))) [oI .u16 (askG k v).words] := by
  have hw16 := within_ok (k := k) (n := 16) hk (by omega)
  rw [hw] at hw16
  have hd16 := digit_ok (k := k) (d := 16) (n := 40) hk (by omega) (by omega)
  have hd640 := digit_ok (k := k) (d := 640) (n := 6) hk (by omega) (by omega)
  have hd3840 := digit_ok (k := k) (d := 3840) (n := 12) hk (by omega) (by omega)
  have hd46080 := digit_ok (k := k) (d := 46080) (n := 65536) hk (by omega) (by omega)
  have hw40 := within_ok (k := v) (n := 40) hv (by omega)
  have hd40 := digit_ok (k := v) (d := 40) (n := 6) hv (by omega) (by omega)
  have r4 := dig_rng v 40 (n := 6) (by omega)
  have hN := aN_rng k
  have hws := wordsGO_ok (k := v) hv (n := (aN k).toNat) (by omega)
  rw [show ((aN k).toNat : Int) = aN k by omega] at hws
  have hwl := wordsG_len v (aN k).toNat
  have e : askG k v = askGw 14 k v := by rw [askG, hw]
  rw [e]
  have r0 := dig_rng k 640 (n := 6) (by omega)
  refine FnOk.tree t12 (.f [] hd16 (.f [] hd640 (.f [] hd3840 (.br 16 (.f [] hd46080 (.f [] hw16 (.o [] [] hws (.f [] hw40 (.f [] hd40 (.a (.call [2] [] .u []) .nil)))))) (.f [] hw16 (.o [] [] hws (.f [] hw40 (.f [] hd40 (.a (.call [2] [] .u []) .nil))))))))) rfl rfl rfl rfl ?_
  simp +contextual [leVs, leP, leE, leL, leC, eqOs, askGw, aAt, aN, wu16, wordsG_len]
  all_goals (repeat (first | omega | exact LeOs.of rfl | (intro _) | apply And.intro))
theorem askG_14 {k v : Int} (hk : b64 k) (hv : b64 v) (hw : k % 16 = 14) : FnOk Tryz.prog 12 [vI .i64 k, vI .i64 v] [] (askG k v).v [] :=
  (askGn_14 hk hv hw).wk (LeVs.refl _) (leP_ok (by
    have e : askG k v = askGw 14 k v := by rw [askG, hw]
    rw [e]
    simp [leP, leE, leL, leC, askGw]))
theorem askGn_15 {k v : Int} (hk : b64 k) (hv : b64 v) (hw : k % 16 = 15) : FnOk Tryz.prog 12 [vI .i64 k, vI .i64 v] [] (.e (.agg ((askG k v).csN (.t .nil) (.t .nil)))) [] := by
  have hw16 := within_ok (k := k) (n := 16) hk (by omega)
  rw [hw] at hw16
  have hd16 := digit_ok (k := k) (d := 16) (n := 40) hk (by omega) (by omega)
  have hd640 := digit_ok (k := k) (d := 640) (n := 6) hk (by omega) (by omega)
  have hd3840 := digit_ok (k := k) (d := 3840) (n := 12) hk (by omega) (by omega)
  have hd46080 := digit_ok (k := k) (d := 46080) (n := 65536) hk (by omega) (by omega)
  have hw4 := within_ok (k := v) (n := 4) hv (by omega)
  have r5 := mod_rng v (n := 4) (by omega)
  have hd4 := digit_ok (k := v) (d := 4) (n := 5) hv (by omega) (by omega)
  have e : askG k v = askGw 15 k v := by rw [askG, hw]
  rw [e]
  have r0 := dig_rng k 640 (n := 6) (by omega)
  refine FnOk.tree t12 (.f [] hd16 (.f [] hd640 (.f [] hd3840 (.br 16 (.f [] hd46080 (.f [] hw16 (.f [] hw4 (.f [] hd4 .nil)))) (.f [] hw16 (.f [] hw4 (.f [] hd4 .nil))))))) rfl rfl rfl rfl ?_
  simp +contextual [leVs, leP, leE, leL, leC, eqOs, askGw, aAt, aN, wu16]
  all_goals (repeat (first | omega | exact LeOs.of rfl | (intro _) | apply And.intro))
theorem askG_15 {k v : Int} (hk : b64 k) (hv : b64 v) (hw : k % 16 = 15) : FnOk Tryz.prog 12 [vI .i64 k, vI .i64 v] [] (askG k v).v [] :=
  (askGn_15 hk hv hw).wk (LeVs.refl _) (leP_ok (by
    have e : askG k v = askGw 15 k v := by rw [askG, hw]
    rw [e]
    simp [leP, leE, leL, leC, askGw]))
end Go.Proofs.YthddlkhfkncgpaaGreat
