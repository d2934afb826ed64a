/-
  The chapter's example; the law LeasePlays.
-/
import Derived.Test.YtkahpdbmgmiaiaaL4
set_option maxRecDepth 100000
set_option maxHeartbeats 1000000
set_option linter.unusedVariables false
set_option linter.unusedSimpArgs false
namespace Go.Proofs.Ytkahpdbmgmiaiaa
open Go.RowKit

theorem wf_nil (c : Nat) : Bk.Wf ⟨c, []⟩ := ⟨.nil, .nil, by simp, by simp⟩
theorem wf_one {c : Nat} (hc : 0 < c) {k n : Int} (hn : 1 ≤ n ∧ n ≤ 65535) : Bk.Wf ⟨c, [(0, k, n)]⟩ := ⟨by simp, by simp, by simpa using hc, by simpa using hn⟩
theorem awake22_ok : FnOk Try.prog 6 [] [] (vB true) [] := by
  have hN : FnOk Try.prog 8 [vI .i64 2] [] (vC (.ptr 0 0)) [bkO 2, bkM ⟨0, []⟩] := lNew_ok
  have hH : FnOk Try.prog 14 [vC (.ptr 0 0), vI .i64 7] [bkO 2, bkM ⟨0, []⟩] (.tup []) [bkO 2, bkM ⟨1, [(0, 7, 2)]⟩] := hear_ok
  have h1 : FnOk Try.prog 11 [vC (.ptr 0 0)] [bkO 2, bkM ⟨1, [(0, 7, 2)]⟩] (lN []) [bkO 2, bkM ⟨1, [(0, 7, 1)]⟩] := tick_ok (wf_one (by omega) (by omega)) (by simp)
  have h2 : FnOk Try.prog 11 [vC (.ptr 0 0)] [bkO 2, bkM ⟨1, [(0, 7, 1)]⟩] (lN [7]) [bkO 2, bkM ⟨1, []⟩] := tick_ok (wf_one (by omega) (by omega)) (by simp)
  have h3 : FnOk Try.prog 11 [vC (.ptr 0 0)] [bkO 2, bkM ⟨1, []⟩] (lN []) [bkO 2, bkM ⟨1, []⟩] := tick_ok (wf_nil 1) (by simp)
  refine FnOk.tree t6 (.o [] [] hN (.o [0, 1] [] hH (.o [0, 1] [] h1 (.o [0, 1] [] h2 (.o [0, 1] [] h3 (.a (.at [.int .i64 7]) .nil)))))) rfl rfl rfl rfl ?_
  simp [leVs, leP, leE, leC, eqOs, rI]
def ownU : List Int := [-2, -1, 0, 1, 2, 3]
theorem leasePlays_ok {t : Int} (ht : b64 t) (near : Bool) {ops : List Int} (ho : ∀ x ∈ ops, b64 x) (hm : ops.length ≤ 9223372036854775807) : FnOk Try.prog 3 [vI .i64 t, vB near, lN ops] [] (vB true) [] := by
  have haw := awake22_ok
  by_cases c1 : 200 < ops.length
  · exact FnOk.tree t3 (.a (.b 20 true) (.f [] haw .nil)) rfl rfl rfl rfl (by simp [leVs, leP, leE, leC]; omega)
  refine FnOk.start t3 rfl rfl rfl ?_
  refine Tri.seq (Tri.go [] rfl trivial ?_)
  refine Tri.seq (Tri.tree (.a (.b 20 false) (.f [] haw .nil)) rfl ⟨by simp; omega, trivial, trivial, ?_⟩)
  refine Tri.mid (fun ρ hl => ∃ t' : Int, hl = [] ∧ keepE ρ [0, 2] = some [(0, vI .i64 t'), (2, lN ops)]) ?_ ?_
  · have hw := within_ok (k := t) (n := 8) ht (by omega)
    cases near with
    | false => exact Tri.tree .nil rfl ⟨t, rfl, keep_of rfl rfl⟩
    | true => exact Tri.tree (.f [] hw .nil) rfl ⟨trivial, by simp [leVs, leP, leE, leC], t % 8, rfl, keep_of rfl rfl⟩
  rintro ρ hl' ⟨t', rfl, hkk⟩
  refine Tri.keep _ hkk ?_
  have hN := lNew_ok (t := t')
  have hR := rNew_ok (t := t')
  have hT := capT_rng t'
  generalize capT t' = T at *
  refine Tri.seq (Tri.tree (.o [] [] hN (.o [] [] hR .nil)) rfl ⟨trivial, ⟨leP_refl _, trivial⟩, rfl, trivial, ⟨leP_refl _, trivial⟩, rfl, ?_⟩)
  refine Tri.seq (Tri.go [] rfl ⟨trivial, trivial⟩ ?_)
  refine Tri.seq (Tri.seq (Tri.go [] rfl trivial ?_))
  refine Tri.block ?_
  refine Tri.lp (fun q ρ hl => ∃ (i : Nat) (b : Bk) (L : List (Int × Int)), q = ops.length - i ∧ i ≤ ops.length ∧ b.Wf ∧ Shows b L ∧ (∀ e ∈ b.es, e.2.1 ∈ ownU) ∧
    hl = [bkO T, bkM b, rB T L] ∧ keepE ρ [2, 7, 8, 9] = some [(2, lN ops), (7, vC (.ptr 0 0)), (8, vC (.ptr 2 0)), (9, vI .i64 i)]) ops.length ⟨0, ⟨0, []⟩, [], by omega, by omega, wf_nil 0, Shows.nil, by simp, rfl, keep_of rfl rfl⟩ ?_
  rintro q ρ hl' ⟨i, b, L, rfl, hi, hw, hs, hU, rfl, hkk⟩
  refine Tri.keep _ hkk ?_
  by_cases h : i < ops.length
  · have hg : (rI .i64 ops)[i]? = some [.int .i64 ops[i]] := by simp [rI, h]
    have hx := ho ops[i] (List.getElem_mem h)
    generalize ops[i] = x at *
    refine Tri.seq (Tri.go [.b 37 true] rfl ⟨decide_eq_true (by omega), trivial⟩ ?_)
    refine Tri.seq (Tri.block ?_)
    have hd := digit_ok (k := x) (d := 4) (n := 6) hx (by omega) (by omega)
    have hdr := Int.emod_nonneg (x.tdiv 4) (show (6 : Int) ≠ 0 by omega)
    have hdr' := Int.emod_lt_of_pos (x.tdiv 4) (show (0 : Int) < 6 by omega)
    have hdd : dig x 4 6 = x.tdiv 4 % 6 := rfl
    refine Tri.seq (Tri.tree (.a (.at [.int .i64 x]) (.f [] hd .nil)) rfl ⟨⟨by omega, rfl, hg⟩, trivial, by simp [leVs, leP, leE, leC], by omega, ?_⟩)
    generalize hc : dig x 4 6 - 2 = c at *
    have hcU : c ∈ ownU := by
      have : c = -2 ∨ c = -1 ∨ c = 0 ∨ c = 1 ∨ c = 2 ∨ c = 3 := by omega
      rcases this with rfl | rfl | rfl | rfl | rfl | rfl <;> simp [ownU]
    have hLl : L.length ≤ 12 := by
      have h1 : (L.map (·.1)).Nodup := by
        rw [List.nodup_iff_pairwise_ne, List.pairwise_map]
        exact hs.so.imp fun h => by omega
      have := h1.length_le_of_subset (l₂ := ownU) fun k hk => by
        obtain ⟨p, hp, rfl⟩ := List.mem_map.1 hk
        obtain ⟨e, e1, e2, _⟩ := mem_get ((hs.me p.1 p.2).1 hp)
        exact e2 ▸ hU e e1
      simp [ownU] at this
      omega
    have hBl : b.es.length ≤ 12 := by
      have := hw.ow.length_le_of_subset (l₂ := ownU) fun k hk => by
        obtain ⟨e, he, rfl⟩ := List.mem_map.1 hk
        exact hU e he
      simp [ownU] at this
      omega
    have hLr : ∀ p ∈ L, b64 (p.2 - 1) := fun p hp => by
      obtain ⟨e, e1, _, e3⟩ := mem_get ((hs.me p.1 p.2).1 hp)
      have := hw.rg e e1
      simp only [b64]
      omega
    refine Tri.mid (fun ρ hl => ∃ (b : Bk) (L : List (Int × Int)), b.Wf ∧ Shows b L ∧ L.length ≤ 13 ∧ (∀ e ∈ b.es, e.2.1 ∈ ownU) ∧
      hl = [bkO T, bkM b, rB T L] ∧ keepE ρ [2, 7, 8, 9] = some [(2, lN ops), (7, vC (.ptr 0 0)), (8, vC (.ptr 2 0)), (9, vI .i64 i)]) ?_ ?_
    · have hwi := within_ok (k := x) (n := 4) hx (by omega)
      have hm1 := Int.emod_nonneg x (show (4 : Int) ≠ 0 by omega)
      have hm2 := Int.emod_lt_of_pos x (show (0 : Int) < 4 by omega)
      have h4 : x % 4 = 0 ∨ x % 4 = 1 ∨ x % 4 = 2 ∨ x % 4 = 3 := by omega
      have hTk := tick_ok (t := T) hw hBl
      have hRt := rTick_ok (t := T) (L := L) (by omega) hLr
      have hso := hs.out hw
      rw [hso] at hTk
      have hsa := same_ok (l := (L.filter fun p => p.2 == 1).map (·.1)) (m := (L.filter fun p => p.2 == 1).map (·.1)) (by rw [List.length_map]; have := List.length_filter_le (fun p : Int × Int => p.2 == 1) L; omega) (by rw [List.length_map]; have := List.length_filter_le (fun p : Int × Int => p.2 == 1) L; omega)
      rw [beq_self_eq_true] at hsa
      have hHe := hear_ok (t := T) (k := c) (b := b)
      have hRh := rHear_ok (t := T) (k := c) (L := L) (by omega)
      have hDr := drop_ok (t := T) (k := c) (b := b)
      have hRd := rDrop_ok (t := T) (k := c) (L := L) (by omega)
      rw [hs.dropped] at hRd
      generalize ((L.filter fun p => p.2 == 1).map (·.1)) = O at *
      have tk : b.tick.Wf ∧ Shows b.tick ((L.filter fun p => !(p.2 == 1)).map fun p => (p.1, p.2 - 1)) ∧ ((L.filter fun p => !(p.2 == 1)).map fun p => (p.1, p.2 - 1)).length ≤ 13 ∧ ∀ e ∈ b.tick.es, e.2.1 ∈ ownU := by
        refine ⟨hw.tick, hs.tick hw, ?_, fun e he => ?_⟩
        · rw [List.length_map]
          have := List.length_filter_le (fun p : Int × Int => !(p.2 == 1)) L
          omega
        · simp only [Bk.tick, List.mem_map, List.mem_filter] at he
          obtain ⟨y, ⟨hy, _⟩, rfl⟩ := he
          exact hU y hy
      rcases h4 with h4 | h4 | h4 | h4
      · rw [h4] at hwi
        exact Tri.tree (.a (.at [.int .i64 x]) (.f [] hwi (.o [0, 1] [] hTk (.o [2] [] hRt (.f [] hsa .nil))))) rfl ⟨⟨by omega, rfl, hg⟩, trivial, by simp [leVs, leP, leE, leC], trivial, ⟨leP_refl _, trivial⟩, rfl, trivial, ⟨leP_refl _, trivial⟩, rfl, trivial, ⟨leP_refl _, leP_refl _, trivial⟩, b.tick, _, tk.1, tk.2.1, tk.2.2.1, tk.2.2.2, rfl, keep_of rfl (by simp)⟩
      · rw [h4] at hwi
        exact Tri.tree (.a (.at [.int .i64 x]) (.f [] hwi (.o [0, 1] [] hTk (.o [2] [] hRt (.f [] hsa .nil))))) rfl ⟨⟨by omega, rfl, hg⟩, trivial, by simp [leVs, leP, leE, leC], trivial, ⟨leP_refl _, trivial⟩, rfl, trivial, ⟨leP_refl _, trivial⟩, rfl, trivial, ⟨leP_refl _, leP_refl _, trivial⟩, b.tick, _, tk.1, tk.2.1, tk.2.2.1, tk.2.2.2, rfl, keep_of rfl (by simp)⟩
      · rw [h4] at hwi
        refine Tri.tree (.a (.at [.int .i64 x]) (.f [] hwi (.o [0, 1] [] hHe (.o [2] [] hRh .nil)))) rfl ⟨⟨by omega, rfl, hg⟩, trivial, by simp [leVs, leP, leE, leC], trivial, ⟨leP_refl _, leP_refl _, trivial⟩, rfl, trivial, ⟨leP_refl _, leP_refl _, trivial⟩, rfl, b.set c T, hearL T c L, hw.set hT, hs.hear hw hT, ?_, fun e he => ?_, rfl, keep_of rfl (by simp)⟩
        · unfold hearL
          have h1 := congrArg List.length (List.takeWhile_append_dropWhile (p := fun p : Int × Int => decide (p.1 < c)) (l := L.filter fun p => p.1 != c))
          have h2 := List.length_filter_le (fun p : Int × Int => p.1 != c) L
          rw [List.length_append] at h1
          rw [List.length_append, List.length_cons]
          omega
        · rcases (mem_set hw c T e.2.1 e.2.2).1 ⟨e, he, rfl, rfl⟩ with ⟨h1, _⟩ | ⟨_, y, hy, h1, _⟩
          · rw [h1]; exact hcU
          · rw [← h1]; exact hU y hy
      · rw [h4] at hwi
        refine Tri.tree (.a (.at [.int .i64 x]) (.f [] hwi (.o [0, 1] [] hDr (.o [2] [] hRd (.a (.b 77 false) .nil))))) rfl ⟨⟨by omega, rfl, hg⟩, trivial, by simp [leVs, leP, leE, leC], trivial, ⟨leP_refl _, leP_refl _, trivial⟩, rfl, trivial, ⟨leP_refl _, leP_refl _, trivial⟩, rfl, by simp, b.del c, _, hw.del c, hs.drop hw c, ?_, fun e he => ?_, rfl, keep_of rfl (by simp)⟩
        · have h2 := List.length_filter_le (fun p : Int × Int => p.1 != c) L
          omega
        · have hsub : (b.del c).es.Sublist b.es := List.eraseIdx_sublist _ _
          exact hU e (hsub.subset he)
    · rintro ρ hl' ⟨b, L, hw, hs, hLl, hU, rfl, hkk⟩
      refine Tri.keep _ hkk ?_
      refine Tri.seq (Tri.go [] rfl trivial ?_)
      refine Tri.block ?_
      refine Tri.lp (fun q ρ hl => ∃ k : Int, q = (5 - k).toNat ∧ -2 ≤ k ∧ k ≤ 5 ∧ hl = [bkO T, bkM b, rB T L] ∧ keepE ρ [2, 7, 8, 9, 12] = some [(2, lN ops), (7, vC (.ptr 0 0)), (8, vC (.ptr 2 0)), (9, vI .i64 i), (12, vI .i64 k)]) 7 ⟨-2, rfl, by omega, by omega, rfl, keep_of rfl (by simp)⟩ ?_
      rintro q ρ hl' ⟨k, rfl, hk1, hk2, rfl, hkk⟩
      refine Tri.keep _ hkk ?_
      by_cases hk : k < 5
      · have hLe := left_ok (t := T) (k := k) (b := b)
        have hRl := rLeft_ok (t := T) (k := k) (L := L) (by omega)
        rw [hs.find k] at hRl
        refine Tri.seq (Tri.go [.b 79 true] rfl ⟨decide_eq_true hk, trivial⟩ ?_)
        refine Tri.seq (Tri.block ?_)
        refine Tri.seq (Tri.tree (.o [0, 1] [] hLe .nil) rfl ⟨trivial, ⟨leP_refl _, leP_refl _, trivial⟩, rfl, ?_⟩)
        refine Tri.seq (Tri.tree (.o [2] [] hRl .nil) rfl ⟨trivial, ⟨leP_refl _, leP_refl _, trivial⟩, rfl, ?_⟩)
        refine Tri.tree (.a (.b 97 false) (.a (.b 101 false) .nil)) rfl ⟨by simp, by simp, ?_⟩
        refine Tri.let [0, 1, 2] [] [2, 7, 8, 9, 12] rfl trivial ?_
        exact Tri.go [] rfl ⟨by omega, trivial⟩ (again (5 - (k + 1)).toNat (by omega) ⟨k + 1, rfl, by omega, by omega, rfl, keep_of rfl (by simp)⟩)
      · refine Tri.go [.b 79 false] rfl ⟨decide_eq_false hk, trivial⟩ (outQ ?_)
        refine Tri.let [0, 1, 2] [] [2, 7, 8, 9] rfl trivial ?_
        refine Tri.go [] rfl ⟨by omega, trivial⟩ (again (ops.length - (i + 1)) (by omega) ⟨i + 1, b, L, rfl, by omega, hw, hs, hU, rfl, keep_of rfl (by simp)⟩)
  · refine Tri.go [.b 37 false] rfl ⟨decide_eq_false (by omega), trivial⟩ (outQ ?_)
    exact Tri.treeR .nil rfl (by simp [leP, leE, leC])
end Go.Proofs.Ytkahpdbmgmiaiaa
