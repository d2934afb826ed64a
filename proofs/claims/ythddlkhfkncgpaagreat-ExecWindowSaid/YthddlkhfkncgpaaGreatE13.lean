/-
  ExecWindow.
-/
import Derived.Test.YthddlkhfkncgpaaGreatE12
set_option maxRecDepth 100000
set_option maxHeartbeats 4000000
set_option linter.unusedVariables false
set_option linter.unusedSimpArgs false
namespace Go.Proofs.YthddlkhfkncgpaaGreat
open Go.RowKit

abbrev ssK (x : Ss) (c : Cf) : List Ob := [.box [.ptr 1 0, .t (.int .i64 x.t), .ptr 5 0, .mp 7], .box [.ptr 2 0, .t (.int .i64 x.e.most), .t (.int .i64 x.e.spans), .t (.int .i64 x.e.writes), .mp 4], stB x.s 3, stM x.s, eM x.M, .box [.t (.int .i64 x.t), .mp 6], bkM x.b, aM x.A, .box c.cs]
abbrev raw4 : Ask := { fn := 4, n := 1 }
theorem raw4_fit : raw4.Fit := fitA (by simp [b64]) (by simp [b64]) (by simp [b64]) (by simp) (by simp) (by simp) (by simp) (by simp) wrd_nil (by simp [b64]) (by simp [b64]) (by simp [b64]) (by simp [b64])
theorem remI {i : Nat} : ((i : Int)).tmod 2 = ((i % 2 : Nat) : Int) := by
  rw [Int.tmod_eq_emod_of_nonneg (by omega)]; omega
theorem execWindow_ok {ks la lb : List Int} (hks : ∀ x ∈ ks, b64 x) (hla : ∀ x ∈ la, b64 x) (hlb : ∀ x ∈ lb, b64 x) (h1 : ks.length ≤ 9223372036854775807) (h2 : la.length ≤ 9223372036854775807) (h3 : lb.length ≤ 9223372036854775807) :
    FnOk Tryz.prog 7 [vD (lI .i64 ks), vD (lI .i64 la), vD (lI .i64 lb)] [] (vB true) [] := by
  have ha := awake25_ok
  by_cases hn : 40 < la.length
  · refine FnOk.tree t7 (.a (.b 19 true) (.a (.b 24 true) (.f [] ha .nil))) rfl rfl rfl rfl ?_
    repeat' (with_reducible apply And.intro)
    all_goals first | trivial | rfl | (exact decide_eq_true (by omega)) | (simp [leVs, leP, leE, leL, leC]; done)
  by_cases hn2 : 40 < lb.length
  · refine FnOk.tree t7 (.a (.b 19 false) (.a (.b 24 true) (.f [] ha .nil))) rfl rfl rfl rfl ?_
    repeat' (with_reducible apply And.intro)
    all_goals first | trivial | rfl | (exact decide_eq_true (by omega)) | (exact decide_eq_false (by omega)) | (simp [leVs, leP, leE, leL, leC]; done)
  have hW := conf_ok hks h1
  have hS := sessions_ok (c := confC ks)
  have hC := confC_ok ks
  have hX := ssC_x (confC_lo ks)
  have hm : (confC ks).map = mapF := rfl
  have hwn : (confC ks).window = 100 := rfl
  have hT : capT (confC ks).lease = (confC ks).lease := by
    show capT (1 + ks.getD 0 0 % 12) = _
    unfold capT
    show _ = 1 + ks.getD 0 0 % 12
    split <;> split <;> omega
  rw [hT] at hX
  refine FnOk.start t7 rfl rfl rfl ?_
  refine Tri.seq (Tri.go [] rfl trivial ?_)
  refine Tri.seq (Tri.tree (.a (.b 19 false) (.a (.b 24 false) (.f [] ha .nil))) rfl ⟨decide_eq_false (by omega), decide_eq_false (by omega), trivial, by simp [leVs], ?_⟩)
  refine Tri.seq (Tri.tree (.f [] hW .nil) rfl ⟨trivial, by simp [leVs], ?_⟩)
  refine Tri.seq (Tri.tree (.o [] [] hS .nil) rfl ⟨trivial, by simp [leVs, leP, leE, leL, leC], rfl, ?_⟩)
  refine Tri.seq (Tri.go [] rfl ⟨trivial, trivial⟩ ?_)
  generalize ssC (confC ks) = y0 at *
  generalize confC ks = c at *
  refine Tri.let [1, 2, 3, 4, 5, 6, 7, 8, 0] [] [1, 2, 7, 8] rfl trivial ?_
  refine Tri.mid (fun ρ hl => ∃ y, hl = ssK y c ∧ keepE ρ [8] = some [(8, vC (.ptr 0 0))]) ?_ ?_
  · refine Tri.seq (Tri.go [] rfl trivial ?_)
    refine Tri.block ?_
    refine Tri.lp (fun z ρ hl => ∃ (i : Nat) (y : Ss), z = la.length - i ∧ i ≤ la.length ∧ i ≤ lb.length ∧ Sx c.lease y ∧ hl = ssK y c ∧
      keepE ρ [1, 2, 7, 8, 10] = some [(1, vD (lI .i64 la)), (2, vD (lI .i64 lb)), (7, vC (.ptr 8 0)), (8, vC (.ptr 0 0)), (10, vI .i64 i)]) la.length ⟨0, y0, by omega, by omega, by omega, hX, rfl, keep_of rfl (by simp)⟩ ?_
    rintro z ρ hl' ⟨i, y, rfl, hi, hi2, hO, rfl, hkk⟩
    refine Tri.keep _ hkk ?_
    by_cases hA' : la.length ≤ i
    · exact Tri.go [.b 42 false, .b 47 false] rfl ⟨decide_eq_false (by omega), rfl, trivial⟩ (outQ ⟨y, rfl, keep_of rfl rfl⟩)
    have hA : i < la.length := by omega
    by_cases hB' : lb.length ≤ i
    · exact Tri.go [.b 42 true, .b 47 false] rfl ⟨decide_eq_true (by omega), decide_eq_false (by omega), trivial⟩ (outQ ⟨y, rfl, keep_of rfl rfl⟩)
    have hB : i < lb.length := by omega
    have hg : (rI .i64 la)[i]? = some [.int .i64 la[i]] := by simp [rI, hA]
    have hb := hla _ (List.getElem_mem hA)
    generalize la[i] = k at *
    have hg2 : (rI .i64 lb)[i]? = some [.int .i64 lb[i]] := by simp [rI, hB]
    have hb2 := hlb _ (List.getElem_mem hB)
    generalize lb[i] = v at *
    have hw := within_ok (k := v) (n := 6) hb2 (by omega)
    have hnx := next_ok hb hb2 (raw := raw4)
    have hnf := nextA_fit (k := k) (v := v) raw4_fit
    refine Tri.seq (Tri.go [.b 42 true, .b 47 true] rfl ⟨decide_eq_true (by omega), decide_eq_true (by omega), trivial⟩ ?_)
    refine Tri.seq (Tri.block ?_)
    refine Tri.mid (fun ρ hl => ∃ y, Sx c.lease y ∧ hl = ssK y c ∧ keepE ρ [1, 2, 7, 8, 10] = some [(1, vD (lI .i64 la)), (2, vD (lI .i64 lb)), (7, vC (.ptr 8 0)), (8, vC (.ptr 0 0)), (10, vI .i64 i)]) ?_ ?_
    · by_cases h0 : v % 6 = 0
      · have ht := ssTick_ok hO.b.wf hO.b.len
        refine Tri.tree (.a (.at [.int .i64 v]) (.f [] hw (.a (.b 55 true) (.o [0, 1, 2, 3, 4, 5, 6, 7] [] ht .nil)))) rfl ⟨⟨by omega, rfl, hg2⟩, trivial, by simp [leVs, leP, leE, leC], by simpa using h0, trivial, by simp [leVs, leP, leE, leC], rfl, _, hO.tick, rfl, keep_of rfl (by simp)⟩
      · exact Tri.tree (.a (.at [.int .i64 v]) (.f [] hw (.a (.b 55 false) .nil))) rfl ⟨⟨by omega, rfl, hg2⟩, trivial, by simp [leVs, leP, leE, leC], by simpa using h0, y, hO, rfl, keep_of rfl (by simp)⟩
    clear hkk hO
    rintro ρ hl' ⟨y1, hO, rfl, hkk⟩
    refine Tri.keep _ hkk ?_
    have hk2 : 0 ≤ ((i % 2 : Nat) : Int) ∧ ((i % 2 : Nat) : Int) ≤ 7 := by omega
    have hdo := do_ok hC hO.w (k := ((i % 2 : Nat) : Int)) hnf
    have hD := hO.do (k := ((i % 2 : Nat) : Int)) hk2 (c := c) (a := nextA k v raw4)
    generalize doR c y1 ((i % 2 : Nat) : Int) (nextA k v raw4) = r at *
    obtain ⟨t, y2⟩ := r
    refine Tri.seq (Tri.tree (.a (.at [.int .i64 k]) (.a (.at [.int .i64 v]) (.f [] hnx (.o [0, 1, 2, 3, 4, 5, 6, 7] [] hdo .nil)))) rfl ?_)
    refine ⟨by simp, ⟨by omega, rfl, hg⟩, ⟨by omega, rfl, hg2⟩, trivial, by simp [leVs, leP, leE, leL, leC], trivial, by simp [leVs, leP, leE, leL, leC, remI], rfl, ?_⟩
    simp only at hD
    refine Tri.let [0, 1, 2, 3, 4, 5, 6, 7, 8] [] [1, 2, 7, 8, 10] rfl trivial ?_
    refine Tri.seq (Tri.go [] rfl trivial ?_)
    refine Tri.block ?_
    clear hO hdo hnx hw hkk
    refine Tri.lp (fun z ρ hl => ∃ j : Nat, z = 2 - j ∧ j ≤ 2 ∧ hl = ssK y2 c ∧ keepE ρ [1, 2, 7, 8, 10, 11] = some [(1, vD (lI .i64 la)), (2, vD (lI .i64 lb)), (7, vC (.ptr 8 0)), (8, vC (.ptr 0 0)), (10, vI .i64 i), (11, vI .i64 j)]) 2 ⟨0, by omega, by omega, rfl, keep_of rfl (by simp)⟩ ?_
    rintro z2 ρ hl' ⟨j, rfl, hj, rfl, hkk⟩
    refine Tri.keep _ hkk ?_
    by_cases hj2 : 2 ≤ j
    · refine Tri.go [.b 74 false] rfl ⟨decide_eq_false (by omega), trivial⟩ (outQ ?_)
      exact Tri.go [] rfl ⟨by omega, trivial⟩ (again (la.length - (i + 1)) (by omega) ⟨i + 1, y2, rfl, by omega, by omega, hD, rfl, keep_of rfl (by simp)⟩)
    have hst := state_ok (x := y2) (c := j)
    have hwd := do_ok hC hD.w (k := j) winA_fit
    rw [do_win hm hwn] at hwd
    have hsk := hD.w.k j
    have hyt := hD.t
    have hyr := hD.r
    generalize stG y2.A j = S at *
    obtain ⟨st, re, le, q⟩ := S
    obtain ⟨k1, k2, k3⟩ := hsk
    simp only at k1 k2 k3 hst hwd
    refine Tri.seq (Tri.go [.b 74 true] rfl ⟨decide_eq_true (by omega), trivial⟩ ?_)
    refine Tri.seq (Tri.block ?_)
    refine Tri.seq (Tri.tree (.o [0, 1, 2, 3, 4, 5, 6, 7] [] hst .nil) rfl ⟨trivial, by simp [leVs, leP, leE, leC], rfl, ?_⟩)
    refine Tri.seq (Tri.tree (.o [0, 1, 2, 3, 4, 5, 6, 7] [] hwd .nil) rfl ⟨trivial, by simp [leVs, leP, leE, leL, leC, winA], rfl, ?_⟩)
    have g0 : ∀ n : Nat, (rI .u16 (regsW st re y2.t q))[n]? = ((regsW st re y2.t q)[n]?).map fun x => [.int .u16 x] := fun n => by simp [rI]
    have r1 : st % 65536 = st := by omega
    have r2 : re % 65536 = re := by omega
    have r3 : y2.t % 65536 = y2.t := by omega
    refine Tri.seq (Tri.tree (.a (.b 88 false) (.a (.b 94 false) (.a (.at [.int .u16 0]) (.a (.b 101 false) (.a (.at [.int .u16 (st % 65536)]) (.a (.b 111 false) (.a (.at [.int .u16 (re % 65536)]) (.a (.b 121 false) (.a (.at [.int .u16 (y2.t % 65536)]) (.a (.b 131 false) (.a (.b 137 false) .nil))))))))))) rfl ?_)
    refine ⟨rfl, by simp [regsW, splitW], ⟨by simp [regsW, splitW], rfl, rfl⟩, rfl, ⟨by simp [regsW, splitW], rfl, rfl⟩, by omega, by simp [r1], ⟨by simp [regsW, splitW], rfl, rfl⟩, by omega, by simp [r2], ⟨by simp [regsW, splitW], rfl, rfl⟩, by omega, by rw [r3, hyt]; simp, by rw [hyt]; simp, ?_⟩
    refine Tri.seq (Tri.go [] rfl trivial ?_)
    refine Tri.mid (fun ρ hl => hl = ssK y2 c ++ [.box [.t (.int .i64 st), .t (.int .i64 re), .t (.int .i64 y2.t), .t (.int .u64 q)], .box ({ fn := 3, words := regsW st re y2.t q } : Tell).cs] ∧ keepE ρ [1, 2, 7, 8, 10, 11, 12, 14] = some [(1, vD (lI .i64 la)), (2, vD (lI .i64 lb)), (7, vC (.ptr 8 0)), (8, vC (.ptr 0 0)), (10, vI .i64 i), (11, vI .i64 j), (12, vC (.ptr 9 0)), (14, vI .u64 q)]) ?_ ?_
    · refine Tri.seq (Tri.go [] rfl trivial ?_)
      refine Tri.block ?_
      refine Tri.lp (fun z ρ hl => ∃ (m : Nat) (n : Int), z = 8 - m ∧ (m = 4 ∧ n = 0 ∨ m = 5 ∧ n = q / 281474976710656 ∨ m = 6 ∧ n = q / 4294967296 ∨ m = 7 ∧ n = q / 65536 ∨ m = 8 ∧ n = q) ∧ hl = ssK y2 c ++ [.box [.t (.int .i64 st), .t (.int .i64 re), .t (.int .i64 y2.t), .t (.int .u64 q)], .box ({ fn := 3, words := regsW st re y2.t q } : Tell).cs] ∧
        keepE ρ [1, 2, 7, 8, 10, 11, 12, 13, 14, 15] = some [(1, vD (lI .i64 la)), (2, vD (lI .i64 lb)), (7, vC (.ptr 8 0)), (8, vC (.ptr 0 0)), (10, vI .i64 i), (11, vI .i64 j), (12, vC (.ptr 9 0)), (13, vC (.ptr 10 0)), (14, vI .u64 n), (15, vI .i64 m)]) 4 ⟨4, 0, rfl, .inl ⟨rfl, rfl⟩, rfl, keep_of rfl (by simp)⟩ ?_
      clear hkk
      rintro z3 ρ hl' ⟨m, n, rfl, hmn, rfl, hkk⟩
      refine Tri.keep _ hkk ?_
      by_cases hm8 : m = 8
      · subst hm8
        have hn : n = q := by omega
        subst hn
        exact Tri.go [.b 139 false] rfl ⟨decide_eq_false (by omega), trivial⟩ (outQ ⟨rfl, keep_of rfl rfl⟩)
      · obtain ⟨w, hw1, hw2, hw3, hw4⟩ : ∃ w, (rI .u16 (regsW st re y2.t q))[((m : Int)).toNat]? = some [.int .u16 w] ∧ (0 ≤ w ∧ w < 65536) ∧ (0 ≤ n ∧ n < 281474976710656) ∧ (m + 1 = 4 ∧ n * 65536 + w = 0 ∨ m + 1 = 5 ∧ n * 65536 + w = q / 281474976710656 ∨ m + 1 = 6 ∧ n * 65536 + w = q / 4294967296 ∨ m + 1 = 7 ∧ n * 65536 + w = q / 65536 ∨ m + 1 = 8 ∧ n * 65536 + w = q) := by
          rcases hmn with ⟨rfl, rfl⟩ | ⟨rfl, rfl⟩ | ⟨rfl, rfl⟩ | ⟨rfl, rfl⟩ | ⟨rfl, rfl⟩
          · exact ⟨q / 281474976710656 % 65536, rfl, by omega, by omega, by omega⟩
          · exact ⟨q / 4294967296 % 65536, rfl, by omega, by omega, by omega⟩
          · exact ⟨q / 65536 % 65536, rfl, by omega, by omega, by omega⟩
          · exact ⟨q % 65536, rfl, by omega, by omega, by omega⟩
          · exact absurd rfl hm8
        have hm4 : 4 ≤ m ∧ m ≤ 7 := by omega
        refine Tri.seq (Tri.go [.b 139 true] rfl ⟨decide_eq_true (by omega), trivial⟩ ?_)
        refine Tri.seq (Tri.block (Tri.tree (.a (.at [.int .u16 w]) .nil) rfl ⟨by omega, ⟨by simp [regsW, splitW]; omega, rfl, hw1⟩, trivial, trivial, ?_⟩))
        refine Tri.go [] rfl ⟨by omega, trivial⟩ (again (8 - (m + 1)) (by omega) ⟨m + 1, n * 65536 + w, rfl, hw4, rfl, ?_⟩)
        have ho := orW16 hw3 hw2
        have hu : IntKind.u64.wrap w = w := by rw [wu64]; omega
        exact keep_of rfl (by rw [hu, ho]; rfl)
    rintro ρ hl' ⟨rfl, hkk⟩
    refine Tri.keep _ hkk ?_
    have hst2 : FnOk Tryz.prog 24 [vC (.ptr 0 0), vI .i64 j] (ssO y2) (vSt st re y2.t q) (ssO y2) := hst
    refine Tri.tree (.a (.b 155 false) (.o [0, 1, 2, 3, 4, 5, 6, 7] [] hst2 (.a (.b 161 false) .nil))) rfl ⟨by simp, trivial, by simp [leVs, leP, leE, leC], rfl, by simp, by simp, ?_⟩
    refine Tri.let [0, 1, 2, 3, 4, 5, 6, 7, 8] [] [1, 2, 7, 8, 10, 11] rfl trivial ?_
    exact Tri.go [] rfl ⟨by omega, trivial⟩ (again (2 - (j + 1)) (by omega) ⟨j + 1, rfl, by omega, rfl, keep_of rfl (by simp)⟩)
  rintro ρ hl' ⟨y, rfl, hkk⟩
  refine Tri.keep _ hkk ?_
  exact Tri.treeR .nil rfl (by simp [leP, leE, leC])
end Go.Proofs.YthddlkhfkncgpaaGreat
