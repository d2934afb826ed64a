/-
  The law LeaseJust.
-/
import Derived.Test.YtkahpdbmgmiaiaaL6
set_option maxRecDepth 100000
set_option maxHeartbeats 1000000
set_option linter.unusedVariables false
set_option linter.unusedSimpArgs false
namespace Go.Proofs.Ytkahpdbmgmiaiaa
open Go.RowKit

def ownW : List Int := [-9, 3]
structure Two (b : Bk) (x y : Int) : Prop where
  wf : b.Wf
  ow : ∀ e ∈ b.es, e.2.1 ∈ ownW
  g3 : b.get 3 = some x
  g9 : b.get (-9) = some y
theorem own_len {b : Bk} (hw : b.Wf) (ho : ∀ e ∈ b.es, e.2.1 ∈ ownW) : b.es.length ≤ 12 := by
  have := hw.ow.length_le_of_subset (l₂ := ownW) fun k hk => by
    obtain ⟨e, he, rfl⟩ := List.mem_map.1 hk
    exact ho e he
  simp [ownW] at this
  omega
theorem own_set {b : Bk} (hw : b.Wf) (ho : ∀ e ∈ b.es, e.2.1 ∈ ownW) {k T : Int} (hk : k ∈ ownW) : ∀ e ∈ (b.set k T).es, e.2.1 ∈ ownW := fun e he => by
  rcases (mem_set hw k T e.2.1 e.2.2).1 ⟨e, he, rfl, rfl⟩ with ⟨h1, _⟩ | ⟨_, y, hy, h1, _⟩
  · rw [h1]; exact hk
  · rw [← h1]; exact ho y hy
theorem own_tick {b : Bk} (ho : ∀ e ∈ b.es, e.2.1 ∈ ownW) : ∀ e ∈ b.tick.es, e.2.1 ∈ ownW := fun e he => by
  simp only [Bk.tick, List.mem_map, List.mem_filter] at he
  obtain ⟨y, ⟨hy, _⟩, rfl⟩ := he
  exact ho y hy
theorem out_nil {b : Bk} (hw : b.Wf) (ho : ∀ e ∈ b.es, e.2.1 ∈ ownW) (h3 : b.get 3 ≠ some 1) (h9 : b.get (-9) ≠ some 1) : srt b.out = [] := by
  refine List.eq_nil_iff_forall_not_mem.2 fun k hk => ?_
  rw [(srt_perm b.out).mem_iff, mem_out hw] at hk
  obtain ⟨e, e1, e2, _⟩ := mem_get hk
  have := ho e e1
  rw [e2] at this
  simp [ownW] at this
  rcases this with rfl | rfl
  · exact h9 hk
  · exact h3 hk
theorem out_two {b : Bk} (h : Two b 1 1) : srt b.out = [-9, 3] := by
  refine sorted_ext (srt_strict (out_nodup h.wf)) (by simp) fun k => ?_
  rw [(srt_perm b.out).mem_iff, mem_out h.wf]
  constructor
  · intro hk
    obtain ⟨e, e1, e2, _⟩ := mem_get hk
    have := h.ow e e1
    rw [e2] at this
    exact this
  · intro hk
    simp at hk
    rcases hk with rfl | rfl
    · exact h.g9
    · exact h.g3
theorem Two.hear3 {b : Bk} {x y T : Int} (h : Two b x y) (hT : 1 ≤ T ∧ T ≤ 65535) : Two (b.set 3 T) T y :=
  ⟨h.wf.set hT, own_set h.wf h.ow (by simp [ownW]), by rw [get_set h.wf hT, if_pos rfl], by rw [get_set h.wf hT, if_neg (by omega), h.g9]⟩
theorem Two.hear9 {b : Bk} {x y T : Int} (h : Two b x y) (hT : 1 ≤ T ∧ T ≤ 65535) : Two (b.set (-9) T) x T :=
  ⟨h.wf.set hT, own_set h.wf h.ow (by simp [ownW]), by rw [get_set h.wf hT, if_neg (by omega), h.g3], by rw [get_set h.wf hT, if_pos rfl]⟩
theorem Two.tick {b : Bk} {x y : Int} (h : Two b x y) (hx : 1 < x) (hy : 1 < y) : Two b.tick (x - 1) (y - 1) :=
  ⟨h.wf.tick, own_tick h.ow, by rw [get_tick h.wf, h.g3]; simp only; rw [if_neg (by omega)], by rw [get_tick h.wf, h.g9]; simp only; rw [if_neg (by omega)]⟩
theorem two0 {T : Int} (hT : 1 ≤ T ∧ T ≤ 65535) : Two ((Bk.set ⟨0, []⟩ 3 T).set (-9) T) T T := by
  have h1 : (Bk.set ⟨0, []⟩ 3 T).Wf := (wf_nil 0).set hT
  have h2 : ∀ e ∈ (Bk.set ⟨0, []⟩ 3 T).es, e.2.1 ∈ ownW := own_set (wf_nil 0) (by simp) (by simp [ownW])
  exact ⟨h1.set hT, own_set h1 h2 (by simp [ownW]), by rw [get_set h1 hT, if_neg (by omega), get_set (wf_nil 0) hT, if_pos rfl], by rw [get_set h1 hT, if_pos rfl]⟩
theorem leaseJust_ok {t : Int} (ht : b64 t) {gs : List Int} (ho : ∀ x ∈ gs, b64 x) (hm : gs.length ≤ 9223372036854775807) : FnOk Try.prog 4 [vI .i64 t, lN gs] [] (vB true) [] := by
  have haw := awake22_ok
  by_cases c1 : 12 < gs.length
  · exact FnOk.tree t4 (.a (.b 17 true) (.f [] haw .nil)) rfl rfl rfl rfl (by simp [leVs, leP, leE, leC]; omega)
  refine FnOk.start t4 rfl rfl rfl ?_
  refine Tri.seq (Tri.go [] rfl trivial ?_)
  refine Tri.seq (Tri.tree (.a (.b 17 false) (.f [] haw .nil)) rfl ⟨by simp; omega, trivial, trivial, ?_⟩)
  have hwt := within_ok (k := t) (n := 60) ht (by omega)
  have hm1 := Int.emod_nonneg t (show (60 : Int) ≠ 0 by omega)
  have hm2 := Int.emod_lt_of_pos t (show (0 : Int) < 60 by omega)
  generalize t % 60 = t1 at *
  have hN := lNew_ok (t := 1 + t1)
  have hT : 1 ≤ 1 + t1 ∧ 1 + t1 ≤ 65535 := by omega
  have hcap : capT (1 + t1) = 1 + t1 := by unfold capT; rw [if_neg (by omega), if_neg (by omega)]
  rw [hcap] at hN
  refine Tri.seq (Tri.tree (.f [] hwt .nil) rfl ⟨trivial, by simp [leVs, leP, leE, leC], by omega, ?_⟩)
  have hT60 : 1 + t1 ≤ 60 := by omega
  generalize 1 + t1 = T at *
  refine Tri.seq (Tri.tree (.o [] [] hN .nil) rfl ⟨trivial, ⟨leP_refl _, trivial⟩, rfl, ?_⟩)
  refine Tri.seq (Tri.go [] rfl ⟨trivial, trivial⟩ ?_)
  have hH3 := hear_ok (t := T) (k := 3) (b := ⟨0, []⟩)
  refine Tri.seq (Tri.tree (.o [0, 1] [] hH3 .nil) rfl ⟨trivial, ⟨leP_refl _, leP_refl _, trivial⟩, rfl, ?_⟩)
  have hH9 := hear_ok (t := T) (k := -9) (b := Bk.set ⟨0, []⟩ 3 T)
  refine Tri.seq (Tri.tree (.o [0, 1] [] hH9 .nil) rfl ⟨trivial, ⟨leP_refl _, leP_refl _, trivial⟩, rfl, ?_⟩)
  refine Tri.mid (fun ρ hl => ∃ (b : Bk) (y : Int), Two b T y ∧ hl = [bkO T, bkM b] ∧ keepE ρ [0, 5] = some [(0, vI .i64 T), (5, vC (.ptr 0 0))]) ?_ ?_
  · refine Tri.seq (Tri.go [] rfl trivial ?_)
    refine Tri.block ?_
    refine Tri.lp (fun q ρ hl => ∃ (i : Nat) (b : Bk) (y : Int), q = gs.length - i ∧ i ≤ gs.length ∧ Two b T y ∧ (1 ≤ y ∧ y ≤ 65535) ∧ hl = [bkO T, bkM b] ∧ keepE ρ [0, 1, 5, 6] = some [(0, vI .i64 T), (1, lN gs), (5, vC (.ptr 0 0)), (6, vI .i64 i)]) gs.length ⟨0, _, T, by omega, by omega, two0 hT, by omega, rfl, keep_of rfl rfl⟩ ?_
    rintro q ρ hl' ⟨i, b, y, rfl, hi, h2, hy, rfl, hkk⟩
    refine Tri.keep _ hkk ?_
    by_cases h : i < gs.length
    · have hg : (rI .i64 gs)[i]? = some [.int .i64 gs[i]] := by simp [rI, h]
      have hx := ho gs[i] (List.getElem_mem h)
      generalize gs[i] = x at *
      have hwi := within_ok (k := x) (n := T) hx (by omega)
      have hq1 := Int.emod_nonneg x (show T ≠ 0 by omega)
      have hq2 := Int.emod_lt_of_pos x (show 0 < T by omega)
      generalize x % T = w at *
      refine Tri.seq (Tri.go [.b 36 true] rfl ⟨decide_eq_true (by omega), trivial⟩ ?_)
      refine Tri.seq (Tri.block ?_)
      refine Tri.mid (fun ρ hl => ∃ (b : Bk) (x y : Int), Two b x y ∧ (1 ≤ y ∧ y ≤ 65535) ∧ hl = [bkO T, bkM b] ∧ keepE ρ [0, 1, 5, 6] = some [(0, vI .i64 T), (1, lN gs), (5, vC (.ptr 0 0)), (6, vI .i64 i)]) ?_ ?_
      · refine Tri.seq (Tri.go [] rfl trivial ?_)
        refine Tri.block ?_
        refine Tri.lp (fun q ρ hl => ∃ (j : Nat) (b : Bk) (y : Int), q = (w - j).toNat ∧ (j : Int) ≤ w ∧ Two b (T - j) y ∧ (1 ≤ y ∧ y ≤ 65535) ∧ hl = [bkO T, bkM b] ∧ keepE ρ [0, 1, 5, 6, 7] = some [(0, vI .i64 T), (1, lN gs), (5, vC (.ptr 0 0)), (6, vI .i64 i), (7, vI .i64 j)]) (w - (0 : Nat)).toNat ⟨0, b, y, rfl, by omega, by simpa using h2, hy, rfl, keep_of rfl (by simp)⟩ ?_
        rintro q ρ hl' ⟨j, b, y, rfl, hj, h2, hy, rfl, hkk⟩
        refine Tri.keep _ hkk ?_
        by_cases hjw : (j : Int) < w
        · refine Tri.seq (Tri.tree (.a (.at [.int .i64 x]) (.f [] hwi (.a (.b 46 true) .nil))) rfl ⟨⟨by omega, rfl, hg⟩, trivial, by simp [leVs, leP, leE, leC], decide_eq_true hjw, ?_⟩)
          have h9 := hear_ok (t := T) (k := -9) (b := b)
          have h2' := h2.hear9 hT
          have hTk := tick_ok (t := T) h2'.wf (own_len h2'.wf h2'.ow)
          rw [out_nil h2'.wf h2'.ow (by rw [h2'.g3]; simp; omega) (by rw [h2'.g9]; simp; omega)] at hTk
          have h2t := h2'.tick (by omega) (by omega)
          refine Tri.seq (Tri.block ?_)
          refine Tri.seq (Tri.tree (.o [0, 1] [] h9 .nil) rfl ⟨trivial, ⟨leP_refl _, leP_refl _, trivial⟩, rfl, ?_⟩)
          refine Tri.tree (.o [0, 1] [] hTk (.a (.b 54 false) .nil)) rfl ⟨trivial, ⟨leP_refl _, trivial⟩, rfl, by simp, ?_⟩
          refine Tri.let [0, 1] [] [0, 1, 5, 6, 7] rfl trivial ?_
          exact Tri.go [] rfl ⟨by omega, trivial⟩ (again (w - (j + 1 : Nat)).toNat (by omega) ⟨j + 1, _, T - 1, rfl, by omega, by rw [show T - ((j + 1 : Nat) : Int) = T - j - 1 by omega]; exact h2t, by omega, rfl, keep_of rfl (by simp)⟩)
        · exact Tri.seq (Tri.tree (.a (.at [.int .i64 x]) (.f [] hwi (.a (.b 46 false) .nil))) rfl ⟨⟨by omega, rfl, hg⟩, trivial, by simp [leVs, leP, leE, leC], decide_eq_false hjw, b, T - j, y, h2, hy, rfl, keep_of rfl (by simp)⟩)
      · rintro ρ hl' ⟨b, x', y, h2, hy, rfl, hkk⟩
        refine Tri.keep _ hkk ?_
        have h3 := hear_ok (t := T) (k := 3) (b := b)
        refine Tri.tree (.o [0, 1] [] h3 .nil) rfl ⟨trivial, ⟨leP_refl _, leP_refl _, trivial⟩, rfl, ?_⟩
        refine Tri.let [0, 1] [] [0, 1, 5, 6] rfl trivial ?_
        exact Tri.go [] rfl ⟨by omega, trivial⟩ (again (gs.length - (i + 1)) (by omega) ⟨i + 1, _, y, rfl, by omega, h2.hear3 hT, hy, rfl, keep_of rfl (by simp)⟩)
    · exact Tri.seq (Tri.tree (.a (.b 36 false) .nil) rfl ⟨decide_eq_false (by omega), b, y, h2, rfl, keep_of rfl (by simp)⟩)
  rintro ρ hl' ⟨b, y, h2, rfl, hkk⟩
  refine Tri.keep _ hkk ?_
  have h9 := hear_ok (t := T) (k := -9) (b := b)
  have h2' := h2.hear9 hT
  refine Tri.seq (Tri.tree (.o [0, 1] [] h9 .nil) rfl ⟨trivial, ⟨leP_refl _, leP_refl _, trivial⟩, rfl, ?_⟩)
  generalize b.set (-9) T = b0 at *
  have hsa := same_ok (l := [-9, 3]) (m := [-9, 3]) (by simp) (by simp)
  rw [beq_self_eq_true] at hsa
  refine Tri.mid (fun ρ hl => ∃ b : Bk, b.Wf ∧ (∀ e ∈ b.es, e.2.1 ∈ ownW) ∧ b.get 3 = none ∧ b.get (-9) = none ∧ hl = [bkO T, bkM b] ∧ keepE ρ [5] = some [(5, vC (.ptr 0 0))]) ?_ ?_
  · refine Tri.seq (Tri.go [] rfl trivial ?_)
    refine Tri.block ?_
    refine Tri.lp (fun q ρ hl => ∃ (k : Int) (b : Bk), q = (T + 1 - k).toNat ∧ 1 ≤ k ∧ k ≤ T + 1 ∧ ((k ≤ T ∧ Two b (T - k + 1) (T - k + 1)) ∨ (k = T + 1 ∧ b.Wf ∧ (∀ e ∈ b.es, e.2.1 ∈ ownW) ∧ b.get 3 = none ∧ b.get (-9) = none)) ∧
      hl = [bkO T, bkM b] ∧ keepE ρ [0, 5, 8] = some [(0, vI .i64 T), (5, vC (.ptr 0 0)), (8, vI .i64 k)]) (T + 1 - 1).toNat ⟨1, b0, rfl, by omega, by omega, .inl ⟨by omega, by rw [show T - 1 + 1 = T by omega]; exact h2'⟩, rfl, keep_of rfl (by simp)⟩ ?_
    rintro q ρ hl' ⟨k, b, rfl, hk1, hk2, hh, rfl, hkk⟩
    refine Tri.keep _ hkk ?_
    rcases hh with ⟨hkT, h2⟩ | ⟨hkT, e1, e2, e3, e4⟩
    · have hLe := left_ok (t := T) (k := 3) (b := b)
      rw [h2.g3] at hLe
      have hTk := tick_ok (t := T) h2.wf (own_len h2.wf h2.ow)
      refine Tri.seq (Tri.go [.b 61 true] rfl ⟨decide_eq_true hkT, trivial⟩ ?_)
      refine Tri.seq (Tri.block ?_)
      refine Tri.seq (Tri.tree (.o [0, 1] [] hLe (.a (.b 78 false) .nil)) rfl ⟨trivial, ⟨leP_refl _, leP_refl _, trivial⟩, rfl, by omega, by omega, by simp, ?_⟩)
      by_cases hlast : k = T
      · subst hlast
        rw [show k - k + 1 = (1 : Int) by omega] at h2
        rw [out_two h2] at hTk
        refine Tri.seq (Tri.tree (.o [0, 1] [] hTk .nil) rfl ⟨trivial, ⟨leP_refl _, trivial⟩, rfl, ?_⟩)
        refine Tri.tree (.a (.b 84 false) (.a (.b 93 true) (.f [] hsa .nil))) rfl ⟨decide_eq_false (by omega), by simp, ⟨⟨rfl, by simp⟩, ⟨rfl, by simp⟩, trivial⟩, trivial, ⟨leP_refl _, leP_refl _, trivial⟩, ?_⟩
        refine Tri.let [0, 1] [] [0, 5, 8] rfl trivial ?_
        refine Tri.go [] rfl ⟨by omega, trivial⟩ (again (k + 1 - (k + 1)).toNat (by omega) ⟨k + 1, b.tick, rfl, by omega, by omega, .inr ⟨rfl, h2.wf.tick, own_tick h2.ow, ?_, ?_⟩, rfl, keep_of rfl (by simp)⟩)
        · rw [get_tick h2.wf, h2.g3]; rfl
        · rw [get_tick h2.wf, h2.g9]; rfl
      · rw [out_nil h2.wf h2.ow (by rw [h2.g3]; simp; omega) (by rw [h2.g9]; simp; omega)] at hTk
        have h2t := h2.tick (by omega) (by omega)
        refine Tri.seq (Tri.tree (.o [0, 1] [] hTk .nil) rfl ⟨trivial, ⟨leP_refl _, trivial⟩, rfl, ?_⟩)
        refine Tri.tree (.a (.b 84 true) (.a (.b 89 false) (.a (.b 93 false) .nil))) rfl ⟨decide_eq_true (by omega), by simp, by simp; omega, ?_⟩
        refine Tri.let [0, 1] [] [0, 5, 8] rfl trivial ?_
        exact Tri.go [] rfl ⟨by omega, trivial⟩ (again (T + 1 - (k + 1)).toNat (by omega) ⟨k + 1, b.tick, rfl, by omega, by omega, .inl ⟨by omega, by rw [show T - (k + 1) + 1 = T - k + 1 - 1 by omega]; exact h2t⟩, rfl, keep_of rfl (by simp)⟩)
    · exact Tri.seq (Tri.tree (.a (.b 61 false) .nil) rfl ⟨decide_eq_false (by omega), b, e1, e2, e3, e4, rfl, keep_of rfl (by simp)⟩)
  rintro ρ hl' ⟨b, hw, ho2, g3, g9, rfl, hkk⟩
  refine Tri.keep _ hkk ?_
  have hLe := left_ok (t := T) (k := 3) (b := b)
  rw [g3] at hLe
  have hTk := tick_ok (t := T) hw (own_len hw ho2)
  rw [out_nil hw ho2 (by rw [g3]; simp) (by rw [g9]; simp)] at hTk
  have hDr := drop_ok (t := T) (k := 3) (b := b.tick)
  have : b.tick.get 3 = none := by rw [get_tick hw, g3]
  rw [this] at hDr
  refine Tri.treeR (.o [0, 1] [] hLe (.o [0, 1] [] hTk (.o [0, 1] [] hDr .nil))) rfl ?_
  exact ⟨trivial, ⟨leP_refl _, leP_refl _, trivial⟩, rfl, trivial, ⟨leP_refl _, trivial⟩, rfl, trivial, ⟨leP_refl _, leP_refl _, trivial⟩, rfl, trivial, rfl, by simp [leP, leE, leC]⟩
end Go.Proofs.Ytkahpdbmgmiaiaa
