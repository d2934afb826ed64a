/-
  The request by two numbers that writes coils; all of them.
-/
import Derived.Test.YthddlkhfkncgpaaGreatM18
set_option maxRecDepth 100000
set_option maxHeartbeats 4000000
set_option linter.unusedVariables false
set_option linter.unusedSimpArgs false
namespace Go.Proofs.YthddlkhfkncgpaaGreat
open Go.RowKit

abbrev cz : List C := [.t (.int .i64 0), .t (.int .i64 0), .t (.int .i64 0), .t (.int .u16 0), .t (.int .u16 0), .t (.int .u16 0), .t .nil, .t .nil, .t (.int .i64 0), .t (.int .i64 0), .t (.int .i64 0), .t (.int .i64 0)]
abbrev cG (fn at_ n : Int) (c : C) : List C := [.t (.int .i64 fn), .t (.int .i64 at_), .t (.int .i64 n), .t (.int .u16 0), .t (.int .u16 0), .t (.int .u16 0), c, .t .nil, .t (.int .i64 0), .t (.int .i64 0), .t (.int .i64 0), .t (.int .i64 0)]
theorem bit_tm {v : Int} {i : Nat} : ((v % (7 + (i : Int))).tmod 2 == 1) = decide (v % (7 + (i : Int)) % 2 = 1) := by
  rw [Int.tmod_eq_emod_of_nonneg (Int.emod_nonneg _ (by omega))]
  rfl
theorem askGn_10 {k v : Int} (hk : b64 k) (hv : b64 v) (hw : k % 16 = 10) : FnOk Tryz.prog 12 [vI .i64 k, vI .i64 v] [] (.e (.agg ((askG k v).csN (.t (lF (askG k v).bits)) (.t .nil)))) [] := by
  have hw16 := within_ok (k := k) (n := 16) hk (by omega)
  rw [hw] at hw16
  have hd16 := digit_ok (k := k) (d := 16) (n := 40) hk (by omega) (by omega)
  have hd640 := digit_ok (k := k) (d := 640) (n := 6) hk (by omega) (by omega)
  have hd3840 := digit_ok (k := k) (d := 3840) (n := 12) hk (by omega) (by omega)
  have hd46080 := digit_ok (k := k) (d := 46080) (n := 65536) hk (by omega) (by omega)
  have hd64 := digit_ok (k := v) (d := 64) (n := 3) hv (by omega) (by omega)
  have hd16' := digit_ok (k := k) (d := 16) (n := 20) hk (by omega) (by omega)
  have e : askG k v = askGw 10 k v := by rw [askG, hw]
  rw [e]
  have r0 := dig_rng k 640 (n := 6) (by omega)
  have rc := aC_rng k v
  have rn := aN_rng k
  refine FnOk.start t12 rfl rfl rfl ?_
  refine Tri.seq (Tri.go [] rfl trivial ?_)
  refine Tri.seq (Tri.tree (.f [] hd16 (.f [] hd640 .nil)) rfl ?_)
  refine ⟨trivial, by simp [leVs, leP, leE, leC], trivial, by simp [leVs, leP, leE, leC], by omega, ?_⟩
  refine Tri.mid (fun ρ hl => hl = [.box cz] ∧ keepE ρ [0, 1, 4, 5, 6] = some [(0, vI .i64 k), (1, vI .i64 v), (4, vC (.ptr 0 0)), (5, vI .i64 (aAt k)), (6, vI .i64 (aN k))]) ?_ ?_
  · refine Tri.tree (.f [] hd3840 (.br 16 (.f [] hd46080 .nil) .nil)) rfl ?_
    refine ⟨trivial, by simp [leVs, leP, leE, leC], fun h => ⟨trivial, by simp [leVs, leP, leE, leC], rfl, ?_⟩, fun h => ⟨rfl, ?_⟩⟩
    · rw [show aAt k = dig k 46080 65536 from if_pos (by simpa using h)]; exact keep_of rfl rfl
    · rw [show aAt k = dig k 16 40 from if_neg (by simpa using h)]; exact keep_of rfl rfl
  rintro ρ hl' ⟨rfl, hkk⟩
  refine Tri.keep _ hkk ?_
  refine Tri.seq (Tri.go [] rfl trivial ?_)
  refine Tri.seq (Tri.seq (Tri.tree (.f [] hw16 .nil) rfl ⟨trivial, by simp [leVs, leP, leE, leC], ?_⟩))
  refine Tri.block ?_
  iterate 6
    refine Tri.seq (Tri.go [] rfl trivial ?_)
    refine Tri.cond rfl (fun h => absurd h (by decide)) (fun _ => ?_)
  refine Tri.seq (Tri.go [] rfl trivial ?_)
  refine Tri.cond rfl (fun _ => ?_) (fun h => absurd h (by decide))
  obtain ⟨n, hn⟩ := Int.eq_ofNat_of_zero_le (a := (aC k v).2) (by omega)
  refine Tri.mid (fun ρ hl => hl = [.box cz, .box (cG 0 (aC k v).1 0 (.t .nil))] ∧ keepE ρ [1, 4, 6, 7] = some [(1, vI .i64 v), (4, vC (.ptr 0 0)), (6, vI .i64 n), (7, vC (.ptr 1 0))]) ?_ ?_
  · refine Tri.tree (.f [] hd64 (.br 71 (.f [] hd16' .nil) .nil)) rfl ?_
    refine ⟨trivial, by simp [leVs, leP, leE, leC], fun h => ⟨trivial, by simp [leVs, leP, leE, leC], by omega, ?_, ?_⟩, fun h => ⟨?_, ?_⟩⟩
    · rw [show aC k v = (dig k 16 20, 14 + aN k) from if_pos (by simpa using h)]
    · rw [← hn, show aC k v = (dig k 16 20, 14 + aN k) from if_pos (by simpa using h)]; exact keep_of rfl rfl
    · rw [show aC k v = (aAt k, aN k) from if_neg (by simpa using h)]
    · rw [← hn, show aC k v = (aAt k, aN k) from if_neg (by simpa using h)]; exact keep_of rfl rfl
  rintro ρ hl' ⟨rfl, hkk⟩
  refine Tri.keep _ hkk ?_
  refine Tri.seq (Tri.go [] rfl trivial ?_)
  refine Tri.seq (Tri.go [] rfl trivial ?_)
  refine Tri.block ?_
  refine Tri.lp (fun q ρ hl => ∃ i, q = n - i ∧ i ≤ n ∧ ((i = 0 ∧ hl = [.box cz, .box (cG 15 (aC k v).1 n (.t .nil))]) ∨ (0 < i ∧ hl = [.box cz, .box (cG 15 (aC k v).1 n (.sl 2 0 i)), .arr 1 (rF (bitsG v i))])) ∧
    keepE ρ [1, 4, 6, 7, 8] = some [(1, vI .i64 v), (4, vC (.ptr 0 0)), (6, vI .i64 n), (7, vC (.ptr 1 0)), (8, vI .i64 i)]) n ⟨0, by omega, by omega, .inl ⟨rfl, rfl⟩, keep_of rfl rfl⟩ ?_
  rintro q ρ hl' ⟨i, rfl, hi, hh, hkk⟩
  by_cases h2 : i < n
  · have hw := within_ok (k := v) (n := 7 + i) hv (by omega)
    have hr := mod_rng v (n := 7 + i) (by omega)
    have hu := bitsG_len v i
    rcases hh with ⟨rfl, rfl⟩ | ⟨h0, rfl⟩
    · refine Tri.keep _ hkk ?_
      refine Tri.tree (.a (.b 82 true) (.f [] hw .nil)) rfl ⟨decide_eq_true (by omega), by omega, trivial, by simp [leVs, leP, leE, leC], by omega, ⟨⟨rfl, by simp⟩, trivial⟩, ⟨.inr rfl, by simp, by omega, by omega⟩, by omega, n - 1, by omega, 1, rfl, by omega, .inr ⟨by omega, ?_⟩, keep_of rfl rfl⟩
      rw [bit_tm (i := 0)]
      rfl
    · refine Tri.keep _ hkk ?_
      refine Tri.seq (Tri.go [.b 82 true] rfl ⟨decide_eq_true (by omega), trivial⟩ ?_)
      refine Tri.seq (Tri.block (Tri.tree (.f [] hw .nil) rfl ⟨by omega, trivial, by simp [leVs, leP, leE, leC], by omega, ⟨⟨rfl, by simp⟩, trivial⟩, ⟨.inr rfl, rfl, by simp [hu], by simp, by omega, by omega⟩, ?_⟩))
      refine Tri.let [0, 1, 3] [] [1, 4, 6, 7, 8] rfl trivial ?_
      refine Tri.go [] rfl ⟨by omega, trivial⟩ (again (n - (i + 1)) (by omega) ⟨i + 1, rfl, by omega, .inr ⟨by omega, ?_⟩, keep_of rfl (by simp)⟩)
      rw [bit_tm, bitsG_succ, ← rF_app]
      rfl
  · have : i = n := by omega
    subst this
    rcases hh with ⟨rfl, _⟩ | ⟨h0, rfl⟩
    · omega
    refine Tri.keep _ hkk ?_
    refine Tri.go [.b 82 false] rfl ⟨decide_eq_false (by omega), trivial⟩ (outQ ?_)
    refine Tri.treeR (.a (.call [] [2] .u []) .nil) rfl ?_
    simp [leP, leE, leL, leC, askGw, hn, bitsG_len]
    exact .nil
theorem askGO_10 {k v : Int} (hk : b64 k) (hv : b64 v) (hw : k % 16 = 10) : FnOk Tryz.prog 12 [vI .i64 k, vI .i64 v] [] (.e (.agg ((askG k v).csN (.sl 0 0 (askG k v).bits.length) (.t .nil)))) [.arr 1 (rF (askG k v).bits)] := by
  have hw16 := within_ok (k := k) (n := 16) hk (by omega)
  rw [hw] at hw16
  have hd16 := digit_ok (k := k) (d := 16) (n := 40) hk (by omega) (by omega)
  have hd640 := digit_ok (k := k) (d := 640) (n := 6) hk (by omega) (by omega)
  have hd3840 := digit_ok (k := k) (d := 3840) (n := 12) hk (by omega) (by omega)
  have hd46080 := digit_ok (k := k) (d := 46080) (n := 65536) hk (by omega) (by omega)
  have hd64 := digit_ok (k := v) (d := 64) (n := 3) hv (by omega) (by omega)
  have hd16' := digit_ok (k := k) (d := 16) (n := 20) hk (by omega) (by omega)
  have e : askG k v = askGw 10 k v := by rw [askG, hw]
  rw [e]
  have r0 := dig_rng k 640 (n := 6) (by omega)
  have rc := aC_rng k v
  have rn := aN_rng k
  refine FnOk.start t12 rfl rfl rfl ?_
  refine Tri.seq (Tri.go [] rfl trivial ?_)
  refine Tri.seq (Tri.tree (.f [] hd16 (.f [] hd640 .nil)) rfl ?_)
  refine ⟨trivial, by simp [leVs, leP, leE, leC], trivial, by simp [leVs, leP, leE, leC], by omega, ?_⟩
  refine Tri.mid (fun ρ hl => hl = [.box cz] ∧ keepE ρ [0, 1, 4, 5, 6] = some [(0, vI .i64 k), (1, vI .i64 v), (4, vC (.ptr 0 0)), (5, vI .i64 (aAt k)), (6, vI .i64 (aN k))]) ?_ ?_
  · refine Tri.tree (.f [] hd3840 (.br 16 (.f [] hd46080 .nil) .nil)) rfl ?_
    refine ⟨trivial, by simp [leVs, leP, leE, leC], fun h => ⟨trivial, by simp [leVs, leP, leE, leC], rfl, ?_⟩, fun h => ⟨rfl, ?_⟩⟩
    · rw [show aAt k = dig k 46080 65536 from if_pos (by simpa using h)]; exact keep_of rfl rfl
    · rw [show aAt k = dig k 16 40 from if_neg (by simpa using h)]; exact keep_of rfl rfl
  rintro ρ hl' ⟨rfl, hkk⟩
  refine Tri.keep _ hkk ?_
  refine Tri.seq (Tri.go [] rfl trivial ?_)
  refine Tri.seq (Tri.seq (Tri.tree (.f [] hw16 .nil) rfl ⟨trivial, by simp [leVs, leP, leE, leC], ?_⟩))
  refine Tri.block ?_
  iterate 6
    refine Tri.seq (Tri.go [] rfl trivial ?_)
    refine Tri.cond rfl (fun h => absurd h (by decide)) (fun _ => ?_)
  refine Tri.seq (Tri.go [] rfl trivial ?_)
  refine Tri.cond rfl (fun _ => ?_) (fun h => absurd h (by decide))
  obtain ⟨n, hn⟩ := Int.eq_ofNat_of_zero_le (a := (aC k v).2) (by omega)
  refine Tri.mid (fun ρ hl => hl = [.box cz, .box (cG 0 (aC k v).1 0 (.t .nil))] ∧ keepE ρ [1, 4, 6, 7] = some [(1, vI .i64 v), (4, vC (.ptr 0 0)), (6, vI .i64 n), (7, vC (.ptr 1 0))]) ?_ ?_
  · refine Tri.tree (.f [] hd64 (.br 71 (.f [] hd16' .nil) .nil)) rfl ?_
    refine ⟨trivial, by simp [leVs, leP, leE, leC], fun h => ⟨trivial, by simp [leVs, leP, leE, leC], by omega, ?_, ?_⟩, fun h => ⟨?_, ?_⟩⟩
    · rw [show aC k v = (dig k 16 20, 14 + aN k) from if_pos (by simpa using h)]
    · rw [← hn, show aC k v = (dig k 16 20, 14 + aN k) from if_pos (by simpa using h)]; exact keep_of rfl rfl
    · rw [show aC k v = (aAt k, aN k) from if_neg (by simpa using h)]
    · rw [← hn, show aC k v = (aAt k, aN k) from if_neg (by simpa using h)]; exact keep_of rfl rfl
  rintro ρ hl' ⟨rfl, hkk⟩
  refine Tri.keep _ hkk ?_
  refine Tri.seq (Tri.go [] rfl trivial ?_)
  refine Tri.seq (Tri.go [] rfl trivial ?_)
  refine Tri.block ?_
  refine Tri.lp (fun q ρ hl => ∃ i, q = n - i ∧ i ≤ n ∧ ((i = 0 ∧ hl = [.box cz, .box (cG 15 (aC k v).1 n (.t .nil))]) ∨ (0 < i ∧ hl = [.box cz, .box (cG 15 (aC k v).1 n (.sl 2 0 i)), .arr 1 (rF (bitsG v i))])) ∧
    keepE ρ [1, 4, 6, 7, 8] = some [(1, vI .i64 v), (4, vC (.ptr 0 0)), (6, vI .i64 n), (7, vC (.ptr 1 0)), (8, vI .i64 i)]) n ⟨0, by omega, by omega, .inl ⟨rfl, rfl⟩, keep_of rfl rfl⟩ ?_
  rintro q ρ hl' ⟨i, rfl, hi, hh, hkk⟩
  by_cases h2 : i < n
  · have hw := within_ok (k := v) (n := 7 + i) hv (by omega)
    have hr := mod_rng v (n := 7 + i) (by omega)
    have hu := bitsG_len v i
    rcases hh with ⟨rfl, rfl⟩ | ⟨h0, rfl⟩
    · refine Tri.keep _ hkk ?_
      refine Tri.tree (.a (.b 82 true) (.f [] hw .nil)) rfl ⟨decide_eq_true (by omega), by omega, trivial, by simp [leVs, leP, leE, leC], by omega, ⟨⟨rfl, by simp⟩, trivial⟩, ⟨.inr rfl, by simp, by omega, by omega⟩, by omega, n - 1, by omega, 1, rfl, by omega, .inr ⟨by omega, ?_⟩, keep_of rfl rfl⟩
      rw [bit_tm (i := 0)]
      rfl
    · refine Tri.keep _ hkk ?_
      refine Tri.seq (Tri.go [.b 82 true] rfl ⟨decide_eq_true (by omega), trivial⟩ ?_)
      refine Tri.seq (Tri.block (Tri.tree (.f [] hw .nil) rfl ⟨by omega, trivial, by simp [leVs, leP, leE, leC], by omega, ⟨⟨rfl, by simp⟩, trivial⟩, ⟨.inr rfl, rfl, by simp [hu], by simp, by omega, by omega⟩, ?_⟩))
      refine Tri.let [0, 1, 3] [] [1, 4, 6, 7, 8] rfl trivial ?_
      refine Tri.go [] rfl ⟨by omega, trivial⟩ (again (n - (i + 1)) (by omega) ⟨i + 1, rfl, by omega, .inr ⟨by omega, ?_⟩, keep_of rfl (by simp)⟩)
      rw [bit_tm, bitsG_succ, ← rF_app]
      rfl
  · have : i = n := by omega
    subst this
    rcases hh with ⟨rfl, _⟩ | ⟨h0, rfl⟩
    · omega
    refine Tri.keep _ hkk ?_
    refine Tri.go [.b 82 false] rfl ⟨decide_eq_false (by omega), trivial⟩ (outQ ?_)
    refine Tri.treeR (.a (.call [2] [] .u []) .nil) rfl ?_
    simp [leP, leE, leL, leC, askGw, hn, bitsG_len]
    exact .of rfl
theorem askG_10 {k v : Int} (hk : b64 k) (hv : b64 v) (hw : k % 16 = 10) : FnOk Tryz.prog 12 [vI .i64 k, vI .i64 v] [] (askG k v).v [] :=
  (askGn_10 hk hv hw).wk (LeVs.refl _) (leP_ok (by
    have e : askG k v = askGw 10 k v := by rw [askG, hw]
    rw [e]
    simp [leP, leE, leL, leC, askGw]))
theorem askG_ok {k v : Int} (hk : b64 k) (hv : b64 v) : FnOk Tryz.prog 12 [vI .i64 k, vI .i64 v] [] (askG k v).v [] := by
  have hw := mod_rng k (n := 16) (by omega)
  have : k % 16 = 0 ∨ k % 16 = 1 ∨ k % 16 = 2 ∨ k % 16 = 3 ∨ k % 16 = 4 ∨ k % 16 = 5 ∨ k % 16 = 6 ∨ k % 16 = 7 ∨ k % 16 = 8 ∨ k % 16 = 9 ∨ k % 16 = 10 ∨ k % 16 = 11 ∨ k % 16 = 12 ∨ k % 16 = 13 ∨ k % 16 = 14 ∨ k % 16 = 15 := by omega
  rcases this with h | h | h | h | h | h | h | h | h | h | h | h | h | h | h | h
  · exact askG_0 hk hv h
  · exact askG_1 hk hv h
  · exact askG_2 hk hv h
  · exact askG_3 hk hv h
  · exact askG_4 hk hv h
  · exact askG_5 hk hv h
  · exact askG_6 hk hv h
  · exact askG_7 hk hv h
  · exact askG_8 hk hv h
  · exact askG_9 hk hv h
  · exact askG_10 hk hv h
  · exact askG_11 hk hv h
  · exact askG_12 hk hv h
  · exact askG_13 hk hv h
  · exact askG_14 hk hv h
  · exact askG_15 hk hv h
/-- Its bits, to be appended to: one's own, or none. -/
theorem askG_bits {k v : Int} (hk : b64 k) (hv : b64 v) : FnOk Tryz.prog 12 [vI .i64 k, vI .i64 v] [] (.e (.agg ((askG k v).csN (.sl 0 0 (askG k v).bits.length) (.t .nil)))) [.arr 1 (rF (askG k v).bits)] ∧ (askG k v).words = [] ∨
    FnOk Tryz.prog 12 [vI .i64 k, vI .i64 v] [] (.e (.agg ((askG k v).csN (.t .nil) (.t (lI .u16 (askG k v).words))))) [] ∧ (askG k v).bits = [] := by
  have hw := mod_rng k (n := 16) (by omega)
  have e : ∀ w, k % 16 = w → askG k v = askGw w k v := fun w h => by rw [askG, h]
  have : k % 16 = 0 ∨ k % 16 = 1 ∨ k % 16 = 2 ∨ k % 16 = 3 ∨ k % 16 = 4 ∨ k % 16 = 5 ∨ k % 16 = 6 ∨ k % 16 = 7 ∨ k % 16 = 8 ∨ k % 16 = 9 ∨ k % 16 = 10 ∨ k % 16 = 11 ∨ k % 16 = 12 ∨ k % 16 = 13 ∨ k % 16 = 14 ∨ k % 16 = 15 := by omega
  rcases this with h | h | h | h | h | h | h | h | h | h | h | h | h | h | h | h
  · exact .inr ⟨(askGn_0 hk hv h).wk (LeVs.refl _) (leP_ok (by rw [e _ h]; simp [leP, leE, leL, leC, askGw])), by rw [e _ h]; simp [askGw]⟩
  · exact .inr ⟨(askGn_1 hk hv h).wk (LeVs.refl _) (leP_ok (by rw [e _ h]; simp [leP, leE, leL, leC, askGw])), by rw [e _ h]; simp [askGw]⟩
  · exact .inr ⟨(askGn_2 hk hv h).wk (LeVs.refl _) (leP_ok (by rw [e _ h]; simp [leP, leE, leL, leC, askGw])), by rw [e _ h]; simp [askGw]⟩
  · exact .inr ⟨(askGn_3 hk hv h).wk (LeVs.refl _) (leP_ok (by rw [e _ h]; simp [leP, leE, leL, leC, askGw])), by rw [e _ h]; simp [askGw]⟩
  · exact .inr ⟨(askGn_4 hk hv h).wk (LeVs.refl _) (leP_ok (by rw [e _ h]; simp [leP, leE, leL, leC, askGw])), by rw [e _ h]; simp [askGw]⟩
  · exact .inr ⟨(askGn_5 hk hv h).wk (LeVs.refl _) (leP_ok (by rw [e _ h]; simp [leP, leE, leL, leC, askGw])), by rw [e _ h]; simp [askGw]⟩
  · exact .inr ⟨(askGn_6 hk hv h).wk (LeVs.refl _) (leP_ok (by rw [e _ h]; simp [leP, leE, leL, leC, askGw])), by rw [e _ h]; simp [askGw]⟩
  · exact .inr ⟨(askGn_7 hk hv h).wk (LeVs.refl _) (leP_ok (by rw [e _ h]; simp [leP, leE, leL, leC, askGw])), by rw [e _ h]; simp [askGw]⟩
  · exact .inr ⟨(askGn_8 hk hv h).wk (LeVs.refl _) (leP_ok (by rw [e _ h]; simp [leP, leE, leL, leC, askGw])), by rw [e _ h]; simp [askGw]⟩
  · exact .inr ⟨(askGn_9 hk hv h).wk (LeVs.refl _) (leP_ok (by rw [e _ h]; simp [leP, leE, leL, leC, askGw])), by rw [e _ h]; simp [askGw]⟩
  · exact .inl ⟨askGO_10 hk hv h, by rw [e _ h]; simp [askGw]⟩
  · exact .inr ⟨(askGn_11 hk hv h).wk (LeVs.refl _) (leP_ok (by rw [e _ h]; simp [leP, leE, leL, leC, askGw])), by rw [e _ h]; simp [askGw]⟩
  · exact .inr ⟨(askGn_12 hk hv h).wk (LeVs.refl _) (leP_ok (by rw [e _ h]; simp [leP, leE, leL, leC, askGw])), by rw [e _ h]; simp [askGw]⟩
  · exact .inr ⟨(askGn_13 hk hv h).wk (LeVs.refl _) (leP_ok (by rw [e _ h]; simp [leP, leE, leL, leC, askGw])), by rw [e _ h]; simp [askGw]⟩
  · exact .inr ⟨(askGn_14 hk hv h).wk (LeVs.refl _) (leP_ok (by rw [e _ h]; simp [leP, leE, leL, leC, askGw])), by rw [e _ h]; simp [askGw]⟩
  · exact .inr ⟨(askGn_15 hk hv h).wk (LeVs.refl _) (leP_ok (by rw [e _ h]; simp [leP, leE, leL, leC, askGw])), by rw [e _ h]; simp [askGw]⟩
/-- Its words, likewise. -/
theorem askG_words {k v : Int} (hk : b64 k) (hv : b64 v) : FnOk Tryz.prog 12 [vI .i64 k, vI .i64 v] [] (.e (.agg ((askG k v).csN (.t .nil) (.sl 0 0 (askG k v).words.length)))) [oI .u16 (askG k v).words] ∧ (askG k v).bits = [] ∨
    FnOk Tryz.prog 12 [vI .i64 k, vI .i64 v] [] (.e (.agg ((askG k v).csN (.t (lF (askG k v).bits)) (.t .nil)))) [] ∧ (askG k v).words = [] := by
  have hw := mod_rng k (n := 16) (by omega)
  have e : ∀ w, k % 16 = w → askG k v = askGw w k v := fun w h => by rw [askG, h]
  have : k % 16 = 0 ∨ k % 16 = 1 ∨ k % 16 = 2 ∨ k % 16 = 3 ∨ k % 16 = 4 ∨ k % 16 = 5 ∨ k % 16 = 6 ∨ k % 16 = 7 ∨ k % 16 = 8 ∨ k % 16 = 9 ∨ k % 16 = 10 ∨ k % 16 = 11 ∨ k % 16 = 12 ∨ k % 16 = 13 ∨ k % 16 = 14 ∨ k % 16 = 15 := by omega
  rcases this with h | h | h | h | h | h | h | h | h | h | h | h | h | h | h | h
  · exact .inr ⟨(askGn_0 hk hv h).wk (LeVs.refl _) (leP_ok (by rw [e _ h]; simp [leP, leE, leL, leC, askGw])), by rw [e _ h]; simp [askGw]⟩
  · exact .inr ⟨(askGn_1 hk hv h).wk (LeVs.refl _) (leP_ok (by rw [e _ h]; simp [leP, leE, leL, leC, askGw])), by rw [e _ h]; simp [askGw]⟩
  · exact .inr ⟨(askGn_2 hk hv h).wk (LeVs.refl _) (leP_ok (by rw [e _ h]; simp [leP, leE, leL, leC, askGw])), by rw [e _ h]; simp [askGw]⟩
  · exact .inr ⟨(askGn_3 hk hv h).wk (LeVs.refl _) (leP_ok (by rw [e _ h]; simp [leP, leE, leL, leC, askGw])), by rw [e _ h]; simp [askGw]⟩
  · exact .inr ⟨(askGn_4 hk hv h).wk (LeVs.refl _) (leP_ok (by rw [e _ h]; simp [leP, leE, leL, leC, askGw])), by rw [e _ h]; simp [askGw]⟩
  · exact .inr ⟨(askGn_5 hk hv h).wk (LeVs.refl _) (leP_ok (by rw [e _ h]; simp [leP, leE, leL, leC, askGw])), by rw [e _ h]; simp [askGw]⟩
  · exact .inr ⟨(askGn_6 hk hv h).wk (LeVs.refl _) (leP_ok (by rw [e _ h]; simp [leP, leE, leL, leC, askGw])), by rw [e _ h]; simp [askGw]⟩
  · exact .inr ⟨(askGn_7 hk hv h).wk (LeVs.refl _) (leP_ok (by rw [e _ h]; simp [leP, leE, leL, leC, askGw])), by rw [e _ h]; simp [askGw]⟩
  · exact .inr ⟨(askGn_8 hk hv h).wk (LeVs.refl _) (leP_ok (by rw [e _ h]; simp [leP, leE, leL, leC, askGw])), by rw [e _ h]; simp [askGw]⟩
  · exact .inr ⟨(askGn_9 hk hv h).wk (LeVs.refl _) (leP_ok (by rw [e _ h]; simp [leP, leE, leL, leC, askGw])), by rw [e _ h]; simp [askGw]⟩
  · exact .inr ⟨(askGn_10 hk hv h).wk (LeVs.refl _) (leP_ok (by rw [e _ h]; simp [leP, leE, leL, leC, askGw])), by rw [e _ h]; simp [askGw]⟩
  · exact .inl ⟨askGO_11 hk hv h, by rw [e _ h]; simp [askGw]⟩
  · exact .inl ⟨askGO_12 hk hv h, by rw [e _ h]; simp [askGw]⟩
  · exact .inr ⟨(askGn_13 hk hv h).wk (LeVs.refl _) (leP_ok (by rw [e _ h]; simp [leP, leE, leL, leC, askGw])), by rw [e _ h]; simp [askGw]⟩
  · exact .inl ⟨askGO_14 hk hv h, by rw [e _ h]; simp [askGw]⟩
  · exact .inr ⟨(askGn_15 hk hv h).wk (LeVs.refl _) (leP_ok (by rw [e _ h]; simp [leP, leE, leL, leC, askGw])), by rw [e _ h]; simp [askGw]⟩
end Go.Proofs.YthddlkhfkncgpaaGreat
