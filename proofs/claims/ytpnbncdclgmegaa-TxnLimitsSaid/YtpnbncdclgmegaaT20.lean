/-
  TxnLimits.
-/
import Derived.Test.YtpnbncdclgmegaaT20a
set_option maxRecDepth 100000
set_option maxHeartbeats 1000000
set_option linter.unusedVariables false
set_option linter.unusedSimpArgs false
namespace Go.Proofs.Ytpnbncdclgmegaa
open Go.RowKit

abbrev V0 : Vw := ⟨0, [], []⟩
def mE (i : Nat) : List (Nat × Int × Vw) := (List.range i).map fun (j : Nat) => (j, 3 * (j : Int), V0)
abbrev mI (i : Nat) : Mo := ⟨i, mE i⟩
theorem mE_len (i : Nat) : (mE i).length = i := by simp [mE]
theorem mE_key {i : Nat} {k : Int} (h : ∀ j : Nat, j < i → 3 * (j : Int) ≠ k) : ∀ e ∈ mE i, e.2.1 ≠ k := by
  intro e he
  obtain ⟨j, hj, rfl⟩ := List.mem_map.1 he
  exact h j (List.mem_range.1 hj)
theorem mI_succ (i : Nat) : mI (i + 1) = ⟨i + 1, mE i ++ [(i, 3 * (i : Int), V0)]⟩ := by simp [mI, mE, List.range_succ]
def mR (n : Nat) : List (Nat × Int × Vw) := (List.range n).map fun (j : Nat) => (j + 1, 3 * ((j : Int) + 1), V0)
theorem mR_len (i : Nat) : (mR i).length = i := by simp [mR]
theorem mR_key {n : Nat} {k : Int} (h : k = 0 ∨ k = 1 ∨ k = 2) : ∀ e ∈ mR n, e.2.1 ≠ k := by
  intro e he
  obtain ⟨j, hj, rfl⟩ := List.mem_map.1 he
  simp only
  omega
theorem mI_head (n : Nat) : mI (n + 1) = ⟨n + 1, (0, 0, V0) :: mR n⟩ := by
  simp [mI, mE, mR, List.range_succ_eq_map]
theorem mI_ok {i : Nat} (h : i ≤ 12) : MpOk (mI i).mp := by
  refine ⟨by simp [Mo.mp, mE, h], fun e he => ?_, ?_, ?_, fun e he => ?_⟩
  · simp only [Mo.mp, mE, List.map_map, List.mem_map, List.mem_range, Function.comp, moE] at he
    obtain ⟨j, hj, rfl⟩ := he
    exact hj
  · simp only [Mo.mp, mE, List.map_map, Function.comp_def, moE, List.map_id']
    exact List.nodup_range
  · simp only [Mo.mp, mE, List.map_map, Function.comp_def, moE]
    rw [List.Nodup, List.pairwise_map]
    exact List.nodup_range.imp fun {a b} hab => by omega
  · simp only [Mo.mp, mE, List.map_map, List.mem_map, List.mem_range, Function.comp, moE] at he
    obtain ⟨j, hj, rfl⟩ := he
    exact ⟨by simp only; omega, by simp only; omega⟩
def rL (i : Nat) : List Spn := (List.range i).map fun (j : Nat) => ((3 : Int), 2 * (j : Int), 2 * (j : Int) + 1)
def wL (i : Nat) : List Cel := (List.range i).map fun (j : Nat) => ((3 : Int), (j : Int), (0 : Int))
theorem rL_len (i : Nat) : (rL i).length = i := by simp [rL]
theorem wL_len (i : Nat) : (wL i).length = i := by simp [wL]
abbrev spI (i : Nat) : Spn := (3, 2 * (i : Int), 2 * (i : Int) + 1)
theorem rL_step {i : Nat} (h : i < 8) : addsS (rL i) (restL [] (spI i)) = rL (i + 1) ∧ lookL [] [] 0 (spI i) = [0] ∧ spnR (spI i) = true := by
  have : i = 0 ∨ i = 1 ∨ i = 2 ∨ i = 3 ∨ i = 4 ∨ i = 5 ∨ i = 6 ∨ i = 7 := by omega
  rcases this with rfl | rfl | rfl | rfl | rfl | rfl | rfl | rfl <;> exact ⟨by decide, by decide, by decide⟩
theorem wL_step {i : Nat} (h : i < 8) : putsL (wL i) [(3, (i : Int), 0)] = wL (i + 1) ∧ mayL [(3, (i : Int), 0)] = true := by
  have : i = 0 ∨ i = 1 ∨ i = 2 ∨ i = 3 ∨ i = 4 ∨ i = 5 ∨ i = 6 ∨ i = 7 := by omega
  rcases this with rfl | rfl | rfl | rfl | rfl | rfl | rfl | rfl <;> exact ⟨by decide, by decide⟩
theorem vwOk_r {i : Nat} (h : i < 8) : VwOk ⟨0, rL i, []⟩ := ⟨by rw [rL_len]; omega, by simp, fun x hx => by
  obtain ⟨j, hj, rfl⟩ := List.mem_map.1 hx
  have := List.mem_range.1 hj
  exact ⟨by simp only; omega, by simp only; omega⟩, by simp⟩
theorem vwOk_w {i : Nat} (h : i < 8) : VwOk ⟨0, [], wL i⟩ := ⟨by simp, by rw [wL_len]; omega, by simp, fun x hx => by
  obtain ⟨j, hj, rfl⟩ := List.mem_map.1 hx
  have := List.mem_range.1 hj
  exact ⟨by simp only; omega, by simp only; omega⟩⟩
abbrev t0 : St := ⟨0, 0, 100, []⟩
theorem t0_go : StGo t0 := stGo_small rfl ⟨by decide, by decide⟩ ⟨by decide, by decide⟩ ⟨by decide, by decide⟩
section
variable {p s w : Nat}
abbrev lkE (p s w : Nat) : En := ⟨p, s, w⟩
/-- Reads, one behind the other. -/
def fM (n s q : Nat) : Mo := if q ≤ s then ⟨n + 1, (0, 0, ⟨0, rL q, []⟩) :: mR n⟩ else ⟨n + 1, mR n⟩
theorem fM_go {n s q : Nat} (h : q ≤ s) : fM n s q = ⟨n + 1, (0, 0, ⟨0, rL q, []⟩) :: mR n⟩ := if_pos h
theorem fM_end {n s q : Nat} (h : ¬ q ≤ s) : fM n s q = ⟨n + 1, mR n⟩ := if_neg h
theorem rd_go {n q : Nat} (hq : q < s) (hs : s < 8) : readR (lkE p s w) t0 (fM n s q) 0 (spI q) = ([0], 0, fM n s (q + 1)) := by
  obtain ⟨h1, h2, h3⟩ := rL_step (i := q) (by omega)
  have e : vrdR [] 0 (rL q) [] (spI q) s = (rL (q + 1), [0], 0) := by
    unfold vrdR
    rw [h1, h2, rL_len, if_neg (by omega)]
  unfold readR
  rw [fM_go (by omega), fM_go (by omega), h3, get_head]
  simp only [Bool.true_eq_false, if_false, e, keepR, if_true]
  rw [set_head]
theorem rd_end {n q : Nat} (hq : q = s) (hs : s < 8) : readR (lkE p s w) t0 (fM n s q) 0 (spI q) = ([], 4, fM n s (q + 1)) := by
  obtain ⟨h1, h2, h3⟩ := rL_step (i := q) (by omega)
  have e : vrdR [] 0 (rL q) [] (spI q) s = (rL q, [], 4) := by
    unfold vrdR
    rw [h1, rL_len, if_pos (by omega)]
  unfold readR
  rw [fM_go (q := q) (by omega), fM_end (q := q + 1) (by omega), h3, get_head]
  simp only [Bool.true_eq_false, if_false, e, keepR]
  rw [if_neg (by decide), del_head]
def gM (n w q : Nat) : Mo := if q ≤ w then ⟨n + 2, mR n ++ [(n + 1, 1, ⟨0, [], wL q⟩)]⟩ else ⟨n + 2, mR n⟩
theorem gM_go {n w q : Nat} (h : q ≤ w) : gM n w q = ⟨n + 2, mR n ++ [(n + 1, 1, ⟨0, [], wL q⟩)]⟩ := if_pos h
theorem gM_end {n w q : Nat} (h : ¬ q ≤ w) : gM n w q = ⟨n + 2, mR n⟩ := if_neg h
theorem wr_go {n q : Nat} (hq : q < w) (hs : w < 8) : writeR (lkE p s w) (gM n w q) 1 [(3, (q : Int), 0)] = (0, gM n w (q + 1)) := by
  obtain ⟨h1, h2⟩ := wL_step (i := q) (by omega)
  have hk := mR_key (n := n) (k := 1) (by omega)
  have e : vwrR (wL q) [(3, (q : Int), 0)] w = (wL (q + 1), 0) := by
    unfold vwrR
    rw [h1, wL_len, if_neg (by omega)]
  unfold writeR
  rw [gM_go (by omega), gM_go (by omega), h2, get_last hk]
  simp only [Bool.true_eq_false, if_false, e, keepR, if_true]
  rw [set_last hk]
theorem wr_end {n q : Nat} (hq : q = w) (hs : w < 8) : writeR (lkE p s w) (gM n w q) 1 [(3, (q : Int), 0)] = (4, gM n w (q + 1)) := by
  obtain ⟨h1, h2⟩ := wL_step (i := q) (by omega)
  have hk := mR_key (n := n) (k := 1) (by omega)
  have e : vwrR (wL q) [(3, (q : Int), 0)] w = (wL q, 4) := by
    unfold vwrR
    rw [h1, wL_len, if_pos (by omega)]
  unfold writeR
  rw [gM_go (q := q) (by omega), gM_end (q := q + 1) (by omega), h2, get_last hk]
  simp only [Bool.true_eq_false, if_false, e, keepR]
  rw [if_neg (by decide), del_last hk]
end
/-- The engine's objects as the law holds them. -/
abbrev lO (e : En) (M : Mo) : List Ob := [stB t0 1, stM t0, enL e, eM M]
theorem txnLimits_ok {a b c : Int} (ha : b64 a) (hb : b64 b) (hc : b64 c) : FnOk Try.prog 5 [vI .i64 a, vI .i64 b, vI .i64 c] [] (vB true) [] := by
  have hwk := awake21_ok
  have ka := within_ok (k := a) (n := 8) ha (by omega)
  have kb := within_ok (k := b) (n := 8) hb (by omega)
  have kc := within_ok (k := c) (n := 8) hc (by omega)
  obtain ⟨n, hn⟩ : ∃ n : Nat, a % 8 = n := ⟨(a % 8).toNat, by omega⟩
  obtain ⟨s, hs⟩ : ∃ n : Nat, b % 8 = n := ⟨(b % 8).toNat, by omega⟩
  obtain ⟨w, hw⟩ : ∃ n : Nat, c % 8 = n := ⟨(c % 8).toNat, by omega⟩
  have hn8 : n < 8 := by omega
  have hs8 : s < 8 := by omega
  have hw8 : w < 8 := by omega
  rw [hn] at ka
  rw [hs] at kb
  rw [hw] at kc
  have h1 : FnOk Try.prog 12 [vI .u64 0, vI .i64 100] [] (vC (.ptr 0 0)) [stB t0 1, stM t0] := sNew_ok (a := 0) (m := 100)
  have h2 : FnOk Try.prog 13 [vC (.ptr 0 0), vI .i64 ((n + 1 : Nat) : Int), vI .i64 s, vI .i64 w] [stB t0 1, stM t0] (vC (.ptr 2 0)) (lO (lkE (n + 1) s w) (mI 0)) := by
    have := eNew_ok (s := t0) (a := ((n + 1 : Nat) : Int)) (b := s) (c := w)
    rw [show max ((n + 1 : Nat) : Int) 0 = ((n + 1 : Nat) : Int) by omega, show max (s : Int) 0 = s by omega, show max (w : Int) 0 = w by omega] at this
    exact this
  refine FnOk.start t5 rfl rfl rfl ?_
  refine Tri.seq (Tri.go [] rfl trivial ?_)
  refine Tri.seq (Tri.tree (.f [] hwk (.a (.b 20 false) .nil)) rfl ⟨trivial, by simp [leVs], rfl, ?_⟩)
  refine Tri.seq (Tri.tree (.f [] ka (.f [] kb (.f [] kc .nil))) rfl ?_)
  repeat ((with_reducible apply And.intro); focus (first | trivial | exact rfl | omega | (simp [leVs, leP, leE, leEs, leL, leC, rI, rwC, rwS]; done)))
  rw [show (1 : Int) + n = ((n + 1 : Nat) : Int) by omega]
  refine Tri.seq (Tri.tree (.o [] [] h1 .nil) rfl ?_)
  repeat ((with_reducible apply And.intro); focus (first | trivial | exact rfl | omega | (simp [leVs, leP, leE, leEs, leL, leC, rI, rwC, rwS]; done)))
  refine Tri.seq (Tri.go [] rfl ⟨trivial, trivial⟩ ?_)
  refine Tri.seq (Tri.tree (.o [0, 1] [] h2 .nil) rfl ?_)
  repeat ((with_reducible apply And.intro); focus (first | trivial | exact rfl | omega | (simp [leVs, leP, leE, leEs, leL, leC, rI, rwC, rwS]; done)))
  refine Tri.seq (Tri.go [] rfl ⟨trivial, trivial⟩ ?_)
  refine Tri.mid (fun ρ hl => hl = lO (lkE (n + 1) s w) (mI (n + 1)) ∧ keepE ρ [1, 2, 7, 8] = some [(1, vI .i64 s), (2, vI .i64 w), (7, vC (.ptr 0 0)), (8, vC (.ptr 2 0))]) ?_ ?_
  · refine Tri.seq (Tri.go [] rfl trivial ?_)
    refine Tri.block ?_
    refine Tri.lp (fun z ρ hl => ∃ i : Nat, z = n + 1 - i ∧ i ≤ n + 1 ∧ hl = lO (lkE (n + 1) s w) (mI i) ∧
      keepE ρ [0, 1, 2, 7, 8, 9] = some [(0, vI .i64 ((n + 1 : Nat) : Int)), (1, vI .i64 s), (2, vI .i64 w), (7, vC (.ptr 0 0)), (8, vC (.ptr 2 0)), (9, vI .i64 i)]) (n + 1) ⟨0, by omega, by omega, rfl, keep_of rfl rfl⟩ ?_
    rintro z ρ hl' ⟨i, rfl, hi, rfl, hkk⟩
    refine Tri.keep _ hkk ?_
    by_cases h : i < n + 1
    · have hk : ∀ e ∈ mE i, e.2.1 ≠ 3 * (i : Int) := mE_key fun j hj => by omega
      have b1 := eO_begin (e := lkE (n + 1) s w) (s := t0) (M := mI i) (M' := mI (i + 1)) (k := 3 * (i : Int)) (r := 0) (by
        unfold begR
        rw [get_noneM hk, mI_succ]
        simp only [Option.isSome_none, Bool.false_eq_true, if_false, mE_len]
        rw [if_neg (by omega), set_new hk])
      have b2 := eO_begin (e := lkE (n + 1) s w) (s := t0) (M := mI (i + 1)) (M' := mI (i + 1)) (k := 3 * (i : Int)) (r := 6) (by
        unfold begR
        have hg : (mI (i + 1)).get (3 * (i : Int)) = some V0 := by rw [mI_succ]; exact get_last hk
        rw [hg]
        rfl)
      have b3 := owners_ok (hs := eO (lkE (n + 1) s w) t0 (mI (i + 1))) (i := 0) (j := 3) rfl rfl rfl (mI_ok (i := i + 1) (by omega))
      have hlen : (srt (mKeys (mI (i + 1)).mp)).length = i + 1 := by rw [srt_len]; simp [mKeys, Mo.mp, mE_len]
      refine Tri.seq (Tri.go [.b 40 true] rfl ⟨decide_eq_true (by omega), trivial⟩ ?_)
      refine Tri.seq (Tri.block (Tri.tree (.o [2, 0, 1, 3] [] b1 (.a (.b 48 false) (.o [2, 0, 1, 3] [] b2 (.a (.b 55 false) (.o [2, 0, 1, 3] [] b3 (.a (.b 62 false) .nil)))))) rfl ?_))
      repeat ((with_reducible apply And.intro); focus (first | exact True.intro | (simp [leVs, leP, leE, leEs, leL, leC, rI, rwC, rwS, hlen]; done) | omega | exact rfl))
      exact Tri.go [] rfl ⟨by omega, trivial⟩ (again (n + 1 - (i + 1)) (by omega) ⟨i + 1, rfl, by omega, rfl, keep_of rfl (by simp)⟩)
    · have : i = n + 1 := by omega
      subst this
      exact Tri.seq (Tri.go [.b 40 false] rfl ⟨decide_eq_false (by omega), trivial⟩ (And.intro rfl (keep_of rfl rfl)))
  rintro ρ hl' ⟨rfl, hkk⟩
  refine Tri.keep _ hkk ?_
  have b4 := eO_begin (e := lkE (n + 1) s w) (s := t0) (M := mI (n + 1)) (M' := mI (n + 1)) (k := 1) (r := 4) (by
    unfold begR
    rw [get_noneM (mE_key fun j hj => by omega)]
    simp only [Option.isSome_none, Bool.false_eq_true, if_false, mE_len]
    rw [if_pos (by omega)])
  refine Tri.seq (Tri.tree (.o [2, 0, 1, 3] [] b4 (.a (.b 65 false) .nil)) rfl ?_)
  repeat ((with_reducible apply And.intro); focus (first | trivial | exact rfl | omega | (simp [leVs, leP, leE, leEs, leL, leC, rI, rwC, rwS]; done)))
  rw [show mI (n + 1) = fM n s 0 by rw [mI_head, fM, if_pos (by omega)]; rfl]
  refine Tri.mid (fun ρ hl => hl = lO (lkE (n + 1) s w) ⟨n + 1, mR n⟩ ∧ keepE ρ [2, 7, 8] = some [(2, vI .i64 w), (7, vC (.ptr 0 0)), (8, vC (.ptr 2 0))]) ?_ ?_
  · refine Tri.seq (Tri.go [] rfl trivial ?_)
    refine Tri.block ?_
    refine Tri.lp (fun z ρ hl => ∃ i : Nat, z = s + 1 - i ∧ i ≤ s + 1 ∧ hl = lO (lkE (n + 1) s w) (fM n s i) ∧
      keepE ρ [1, 2, 7, 8, 10] = some [(1, vI .i64 s), (2, vI .i64 w), (7, vC (.ptr 0 0)), (8, vC (.ptr 2 0)), (10, vI .i64 i)]) (s + 1) ⟨0, by omega, by omega, rfl, keep_of rfl rfl⟩ ?_
    rintro z ρ hl' ⟨i, rfl, hi, rfl, hkk⟩
    refine Tri.keep _ hkk ?_
    by_cases h : i < s + 1
    · have hvw : ∀ v, (fM n s i).get 0 = some v → VwOk v := fun v hv => by
        unfold fM at hv
        rw [if_pos (by omega), get_head] at hv
        cases hv
        exact vwOk_r (by omega)
      refine Tri.seq (Tri.go [.b 68 true] rfl ⟨decide_eq_true (by omega), trivial⟩ ?_)
      by_cases hlt : i < s
      · have hcd : i < s := hlt
        have c1 := eO_read (e := lkE (n + 1) s w) (s := t0) (k := 0) t0_go.ok hvw (rd_go hlt hs8)
        refine Tri.seq (Tri.block (Tri.tree (.o [2, 0, 1, 3] [] c1 (.a (.b 88 false) (.a (.b 91 false) (.a (.b 95 false) .nil)))) rfl ?_))
        repeat ((with_reducible apply And.intro); focus (first | exact True.intro | (simp [leVs, leP, leE, leEs, leL, leC, rI, rwC, rwS, hcd]; done) | omega | exact rfl))
        exact Tri.go [] rfl ⟨by omega, trivial⟩ (again (s + 1 - (i + 1)) (by omega) ⟨i + 1, rfl, by omega, rfl, keep_of rfl (by simp)⟩)
      · have hie : i = s := by omega
        have hcd : ¬ i < s := by omega
        have c1 := eO_read (e := lkE (n + 1) s w) (s := t0) (k := 0) t0_go.ok hvw (rd_end hie hs8)
        refine Tri.seq (Tri.block (Tri.tree (.o [2, 0, 1, 3] [] c1 (.a (.b 88 false) (.a (.b 91 true) (.a (.b 95 false) .nil)))) rfl ?_))
        repeat ((with_reducible apply And.intro); focus (first | exact True.intro | (simp [leVs, leP, leE, leEs, leL, leC, rI, rwC, rwS, hcd]; done) | omega | exact rfl))
        exact Tri.go [] rfl ⟨by omega, trivial⟩ (again (s + 1 - (i + 1)) (by omega) ⟨i + 1, rfl, by omega, rfl, keep_of rfl (by simp)⟩)
    · have : i = s + 1 := by omega
      subst this
      refine Tri.seq (Tri.go [.b 68 false] rfl ⟨decide_eq_false (by omega), trivial⟩ (And.intro ?_ (keep_of rfl rfl)))
      rw [fM, if_neg (by omega)]
  rintro ρ hl' ⟨rfl, hkk⟩
  refine Tri.keep _ hkk ?_
  have d1 : FnOk Try.prog 28 [vC (.ptr 0 0), vI .i64 0] (eO (lkE (n + 1) s w) t0 ⟨n + 1, mR n⟩) (.tup [eVw 0 [] [], .c (.t (.bool false))]) (eO (lkE (n + 1) s w) t0 ⟨n + 1, mR n⟩) := by
    have hg := get_noneM (ck := n + 1) (mR_key (n := n) (k := 0) (by omega))
    have := eView_ok (e := lkE (n + 1) s w) (s := t0) (M := ⟨n + 1, mR n⟩) (k := 0) (fun v hv => by rw [hg] at hv; cases hv)
    rw [hg] at this
    exact this
  have d2 := eO_begin (e := lkE (n + 1) s w) (s := t0) (M := ⟨n + 1, mR n⟩) (M' := gM n w 0) (k := 1) (r := 0) (by
    unfold begR
    have hk := mR_key (n := n) (k := 1) (by omega)
    rw [get_noneM hk]
    simp only [Option.isSome_none, Bool.false_eq_true, if_false, mR_len]
    rw [if_neg (by omega), set_new hk, gM, if_pos (by omega)]
    rfl)
  refine Tri.seq (Tri.tree (.o [2, 0, 1, 3] [] d1 (.a (.b 102 false) (.o [2, 0, 1, 3] [] d2 (.a (.b 106 false) .nil)))) rfl ?_)
  repeat ((with_reducible apply And.intro); focus (first | trivial | exact rfl | omega | (simp [leVs, leP, leE, leEs, leL, leC, rI, rwC, rwS]; done)))
  refine Tri.mid (fun ρ hl => hl = lO (lkE (n + 1) s w) ⟨n + 2, mR n⟩ ++ [bxV 0 [] []] ∧ keepE ρ [7, 8] = some [(7, vC (.ptr 0 0)), (8, vC (.ptr 2 0))]) ?_ ?_
  · refine Tri.seq (Tri.go [] rfl trivial ?_)
    refine Tri.block ?_
    refine Tri.lp (fun z ρ hl => ∃ i : Nat, z = w + 1 - i ∧ i ≤ w + 1 ∧ hl = lO (lkE (n + 1) s w) (gM n w i) ++ [bxV 0 [] []] ∧
      keepE ρ [2, 7, 8, 15] = some [(2, vI .i64 w), (7, vC (.ptr 0 0)), (8, vC (.ptr 2 0)), (15, vI .i64 i)]) (w + 1) ⟨0, by omega, by omega, rfl, keep_of rfl rfl⟩ ?_
    rintro z ρ hl' ⟨i, rfl, hi, rfl, hkk⟩
    refine Tri.keep _ hkk ?_
    by_cases h : i < w + 1
    · have hvw : ∀ v, (gM n w i).get 1 = some v → VwOk v := fun v hv => by
        unfold gM at hv
        rw [if_pos (by omega), get_last (mR_key (by omega))] at hv
        cases hv
        exact vwOk_w (by omega)
      refine Tri.seq (Tri.go [.b 109 true] rfl ⟨decide_eq_true (by omega), trivial⟩ ?_)
      by_cases hlt : i < w
      · have hcd : i < w := hlt
        have c1 := eO_write (e := lkE (n + 1) s w) (s := t0) (k := 1) (l := [(3, (i : Int), 0)]) (by simp) hvw (wr_go hlt hw8)
        refine Tri.seq (Tri.block (Tri.tree (.o [2, 0, 1, 3] [] c1 (.a (.b 124 false) (.a (.b 127 false) (.a (.b 131 false) .nil)))) rfl ?_))
        repeat ((with_reducible apply And.intro); focus (first | exact True.intro | (simp [leVs, leP, leE, leEs, leL, leC, rI, rwC, rwS, hcd]; done) | omega | exact rfl))
        exact Tri.go [] rfl ⟨by omega, trivial⟩ (again (w + 1 - (i + 1)) (by omega) ⟨i + 1, rfl, by omega, rfl, keep_of rfl (by simp)⟩)
      · have hie : i = w := by omega
        have hcd : ¬ i < w := by omega
        have c1 := eO_write (e := lkE (n + 1) s w) (s := t0) (k := 1) (l := [(3, (i : Int), 0)]) (by simp) hvw (wr_end hie hw8)
        refine Tri.seq (Tri.block (Tri.tree (.o [2, 0, 1, 3] [] c1 (.a (.b 124 false) (.a (.b 127 true) (.a (.b 131 false) .nil)))) rfl ?_))
        repeat ((with_reducible apply And.intro); focus (first | exact True.intro | (simp [leVs, leP, leE, leEs, leL, leC, rI, rwC, rwS, hcd]; done) | omega | exact rfl))
        exact Tri.go [] rfl ⟨by omega, trivial⟩ (again (w + 1 - (i + 1)) (by omega) ⟨i + 1, rfl, by omega, rfl, keep_of rfl (by simp)⟩)
    · have : i = w + 1 := by omega
      subst this
      refine Tri.seq (Tri.go [.b 109 false] rfl ⟨decide_eq_false (by omega), trivial⟩ (And.intro ?_ (keep_of rfl rfl)))
      rw [gM, if_neg (by omega)]
  rintro ρ hl' ⟨rfl, hkk⟩
  refine Tri.keep _ hkk ?_
  have hk1 := get_noneM (ck := n + 2) (mR_key (n := n) (k := 1) (by omega))
  have f1 := eO_commit (e := lkE (n + 1) s w) (s := t0) (s' := t0) (M := ⟨n + 2, mR n⟩) (M' := ⟨n + 2, mR n⟩) (k := 1) (a := 0) (r := 5) t0_go (fun v hv => by rw [hk1] at hv; cases hv) (by unfold comR; rw [hk1])
  have f2 := eO_begin (e := lkE (n + 1) s w) (s := t0) (M := ⟨n + 2, mR n⟩) (M' := ⟨n + 3, mR n ++ [(n + 2, 2, V0)]⟩) (k := 2) (r := 0) (by
    unfold begR
    have hk := mR_key (n := n) (k := 2) (by omega)
    rw [get_noneM hk]
    simp only [Option.isSome_none, Bool.false_eq_true, if_false, mR_len]
    rw [if_neg (by omega), set_new hk])
  have f3 := sLast_ok (s := t0)
  have f4 := sVers_ok (s := t0)
  refine Tri.treeR (.o [2, 0, 1, 3] [] f1 (.a (.b 139 true) (.o [2, 0, 1, 3] [] f2 (.a (.b 144 true) (.o [0, 1] [] f3 (.a (.b 149 true) (.o [0, 1] [] f4 .nil))))))) rfl ?_
  repeat' apply And.intro
  all_goals first | trivial | rfl | exact .refl _ | exact leP_refl _ | omega | (simp [leVs, leP, leE, leEs, leL, leC, rI, rwC]; done)
end Go.Proofs.Ytpnbncdclgmegaa
