/-
  tells: what an owner is told.
-/
import Derived.Test.YtdbcmocokoondaaT17
set_option maxRecDepth 100000
set_option maxHeartbeats 1000000
set_option linter.unusedVariables false
set_option linter.unusedSimpArgs false
namespace Go.Proofs.Ytdbcmocokoondaa
open Go.RowKit

theorem Mo.at_lt {M : Mo} {k : Int} {v : Vw} (h : M.get k = some v) : ∃ hlt : M.at k < M.es.length, M.es[M.at k].2.1 = k ∧ M.es[M.at k].2.2 = v := by
  unfold Mo.get at h
  obtain ⟨e, h1, h2⟩ := Option.map_eq_some_iff.1 h
  obtain ⟨hlt, he⟩ := List.getElem?_eq_some_iff.1 h1
  refine ⟨hlt, ?_, by rw [he]; exact h2⟩
  have : (M.es[M.at k].2.1 == k) = true := List.findIdx_getElem (w := hlt)
  simpa using this
theorem Mo.set_self {M : Mo} {k : Int} {v : Vw} (h : M.get k = some v) : M.set k v = M := by
  obtain ⟨hlt, h1, h2⟩ := Mo.at_lt h
  unfold Mo.set
  rw [if_pos hlt]
  show Mo.mk _ _ = Mo.mk M.ck M.es
  congr 1
  apply List.ext_getElem?
  intro i
  rw [List.getElem?_modify]
  by_cases hi : M.at k = i
  · subst hi
    simp [hlt, ← h2]
  · simp [hi]
theorem Mo.at_set {M : Mo} {k : Int} {u v : Vw} (h : M.get k = some u) : (M.set k v).at k = M.at k := by
  obtain ⟨hlt, h1, h2⟩ := Mo.at_lt h
  unfold Mo.set
  rw [if_pos hlt]
  unfold Mo.at
  have : ∀ (l : List (Nat × Int × Vw)) (j : Nat), List.findIdx (fun e => e.2.1 == k) (l.modify j fun e => (e.1, e.2.1, v)) = List.findIdx (fun e => e.2.1 == k) l := by
    intro l
    induction l with
    | nil => intro j; simp
    | cons e l ih =>
      intro j
      cases j with
      | zero => simp [List.findIdx_cons]
      | succ j => simp [List.findIdx_cons, ih j]
  exact this _ _
theorem Mo.get_set {M : Mo} {k : Int} {u v : Vw} (h : M.get k = some u) : (M.set k v).get k = some v := by
  have ha := Mo.at_set (v := v) h
  obtain ⟨hlt, h1, h2⟩ := Mo.at_lt h
  unfold Mo.get
  rw [ha]
  unfold Mo.set
  rw [if_pos hlt]
  simp [List.getElem?_modify, hlt]
theorem Mo.set_set {M : Mo} {k : Int} {u v x : Vw} (h : M.get k = some u) : (M.set k v).set k x = M.set k x := by
  have ha := Mo.at_set (v := v) h
  obtain ⟨hlt, h1, h2⟩ := Mo.at_lt h
  have hl : (M.set k v).es.length = M.es.length := by unfold Mo.set; rw [if_pos hlt]; simp
  have e1 : (M.set k v).set k x = ⟨(M.set k v).ck, (M.set k v).es.modify (M.at k) fun e => (e.1, e.2.1, x)⟩ := by
    rw [← ha]
    unfold Mo.set
    exact if_pos (by have : (M.set k v).at k < (M.set k v).es.length := by rw [ha, hl]; exact hlt
                     exact this)
  rw [e1]
  unfold Mo.set
  rw [if_pos hlt, if_pos hlt]
  simp only [Mo.mk.injEq, true_and]
  apply List.ext_getElem?
  intro i
  simp only [List.getElem?_modify]
  by_cases hi : M.at k = i
  · subst hi
    simp [hlt]
  · simp [hi]
/-- What was read, cell by cell. -/
def tR (W : List Cel) (R : List Spn) (l : List Cel) : List Spn := l.foldl (fun R c => addsS R (restL W (c.1, c.2.1, c.2.1 + 1))) R
theorem tR_succ {W l : List Cel} {R : List Spn} {i : Nat} (h : i < l.length) : tR W R (l.take (i + 1)) = addsS (tR W R (l.take i)) (restL W (l[i].1, l[i].2.1, l[i].2.1 + 1)) := by
  unfold tR
  rw [← List.take_append_getElem h, List.foldl_append]
  rfl
theorem tR_rng {W : List Cel} (hW : ∀ c ∈ W, CeB c) : ∀ (l : List Cel) (R : List Spn), (∀ x ∈ R, SpB x) → AllOk l → ∀ x ∈ tR W R l, SpB x
  | [], R, h, _ => h
  | c :: l, R, h, hl => by
    have hc := (hl c (by simp)).ad
    refine tR_rng hW l (addsS R (restL W (c.1, c.2.1, c.2.1 + 1))) (addsS_rng _ _ h (restL_rng hW ⟨?_, ?_⟩)) fun x hx => hl x (by simp [hx])
    · simp only; omega
    · simp only; omega
theorem lookL_one {L : Chs} {W : List Cel} {q t a : Int} : lookL L W q (t, a, a + 1) = [wordAt L W q t a] := by
  unfold lookL
  have : ((t, a, a + 1) : Spn).2.2 - ((t, a, a + 1) : Spn).2.1 = 1 := by simp only; omega
  rw [this]
  rfl
theorem tells_ok {e : En} {s : St} {M : Mo} {k q : Int} {R : List Spn} {W l : List Cel} {own : Bool} (hs : StOk s) (hg : M.get k = some ⟨q, R, W⟩) (hl : AllOk l) (hll : l.length ≤ 1000) (hRr : ∀ x ∈ R, SpB x) (hWl : W.length ≤ 1000000) (hW : ∀ c ∈ W, CeB c)
    (hval : ∀ c ∈ l, wordAt s.L W q c.1 c.2.1 = if own then c.2.2 else 0) (hb : ∀ i, i ≤ l.length → ((tR W R (l.take i)).length : Int) ≤ e.spans) (hsp : e.spans ≤ 1000000) :
    FnOk Try.prog 13 [vC (.ptr 0 0), vI .i64 k, vCl l, vB own] (eO e s M) (vB true) (eO e s (M.set k ⟨q, tR W R l, W⟩)) := by
  refine FnOk.start t13 rfl rfl rfl ?_
  refine Tri.seq (Tri.go [] rfl trivial ?_)
  refine Tri.mid (fun ρ hl => hl = eO e s (M.set k ⟨q, tR W R l, W⟩) ∧ keepE ρ [0] = some [(0, vC (.ptr 0 0))]) ?_ ?_
  · refine Tri.seq (Tri.go [] rfl trivial ?_)
    refine Tri.block ?_
    refine Tri.lp (fun z ρ hl => ∃ i, z = l.length - i ∧ i ≤ l.length ∧ hl = eO e s (M.set k ⟨q, tR W R (l.take i), W⟩) ∧
      keepE ρ [0, 1, 2, 3, 9] = some [(0, vC (.ptr 0 0)), (1, vI .i64 k), (2, vCl l), (3, vB own), (9, vI .i64 i)]) l.length ⟨0, by omega, by omega, by rw [List.take_zero]; show _ = eO e s (M.set k ⟨q, R, W⟩); rw [Mo.set_self hg], keep_of rfl rfl⟩ ?_
    rintro z ρ hl' ⟨i, rfl, hi, rfl, hkk⟩
    refine Tri.keep _ hkk ?_
    by_cases h : i < l.length
    · have hgc := rwC_get h
      have hco := hl _ (List.getElem_mem h)
      have hv := hval _ (List.getElem_mem h)
      have hsx := tR_succ (W := W) (R := R) h
      have hbn := hb (i + 1) (by omega)
      have hbi := hb i (by omega)
      have hrg := tR_rng hW (l.take i) R hRr fun x hx => hl x (List.mem_of_mem_take hx)
      rw [hsx] at hbn
      generalize hc : l[i] = c at *
      generalize tR W R (l.take i) = R' at *
      have hget := Mo.get_set (v := ⟨q, R', W⟩) hg
      have hcad := hco.ad
      have hspn : spnR (c.1, c.2.1, c.2.1 + 1) = true := by
        have := hco.t
        simp [spnR]
        omega
      have hrd := eO_read (e := e) (s := s) (M := M.set k ⟨q, R', W⟩) (M' := M.set k ⟨q, addsS R' (restL W (c.1, c.2.1, c.2.1 + 1)), W⟩) (k := k) (sp := (c.1, c.2.1, c.2.1 + 1)) (l := [wordAt s.L W q c.1 c.2.1]) (r := 0) hs
        (vwOk_one hget ⟨by simp only; omega, hWl, hrg, hW⟩) (by
          have hn : ¬ e.spans < ((addsS R' (restL W (c.1, c.2.1, c.2.1 + 1))).length : Int) := by omega
          unfold readR
          rw [hspn, hget]
          simp only [Bool.true_eq_false, if_false]
          unfold vrdR
          rw [if_neg hn, lookL_one]
          simp only [keepR, if_true]
          rw [Mo.set_set hg])
      rw [hv] at hrd
      refine Tri.seq (Tri.go [.b 17 true] rfl ⟨decide_eq_true (by omega), trivial⟩ ?_)
      refine Tri.seq (Tri.block (Tri.seq (Tri.tree (.a (.at [.int .i64 c.1, .int .i64 c.2.1, .int .u16 c.2.2]) .nil) rfl ⟨⟨by omega, rfl, hgc⟩, by simp, ?_⟩)))
      refine Tri.seq (Tri.tree (.o [0, 1, 2, 3] [] hrd .nil) rfl ⟨by omega, trivial, by simp [leVs, leP, leE, leL, leC], rfl, ?_⟩)
      refine Tri.seq (Tri.go [] rfl trivial ?_)
      cases own with
      | true =>
        simp only [if_true] at hrd hv ⊢
        refine Tri.seq (Tri.tree (.a (.b 39 true) (.a (.at [.int .i64 c.1, .int .i64 c.2.1, .int .u16 c.2.2]) .nil)) rfl ⟨rfl, ⟨by omega, rfl, hgc⟩, ?_⟩)
        refine Tri.tree (.a (.b 47 false) (.a (.b 52 false) (.a (.at [.int .u16 c.2.2]) (.a (.b 58 false) .nil)))) rfl ⟨rfl, rfl, ⟨by simp, rfl, rfl⟩, by simp, ?_⟩
        refine Tri.let [0, 1, 2, 3] [] [0, 1, 2, 3, 9] rfl trivial ?_
        exact Tri.go [] rfl ⟨by omega, trivial⟩ (again (l.length - (i + 1)) (by omega) ⟨i + 1, rfl, by omega, by rw [hsx], keep_of rfl (by simp)⟩)
      | false =>
        simp only [Bool.false_eq_true, if_false] at hrd hv ⊢
        refine Tri.seq (Tri.tree (.a (.b 39 false) .nil) rfl (And.intro rfl ?_))
        refine Tri.tree (.a (.b 47 false) (.a (.b 52 false) (.a (.at [.int .u16 0]) (.a (.b 58 false) .nil)))) rfl ⟨rfl, rfl, ⟨by simp, rfl, rfl⟩, rfl, ?_⟩
        refine Tri.let [0, 1, 2, 3] [] [0, 1, 2, 3, 9] rfl trivial ?_
        exact Tri.go [] rfl ⟨by omega, trivial⟩ (again (l.length - (i + 1)) (by omega) ⟨i + 1, rfl, by omega, by rw [hsx], keep_of rfl (by simp)⟩)
    · have : i = l.length := by omega
      subst this
      rw [List.take_length]
      exact Tri.seq (Tri.go [.b 17 false] rfl ⟨decide_eq_false (by omega), trivial⟩ (And.intro rfl (keep_of rfl rfl)))
  rintro ρ hl' ⟨rfl, hkk⟩
  refine Tri.keep _ hkk ?_
  exact Tri.treeR (.a (.call [0, 1, 2, 3] [] .u []) .nil) rfl ⟨trivial, .refl _, leP_refl _⟩
end Go.Proofs.Ytdbcmocokoondaa
