/-
  TxnEnds.
-/
import Derived.Test.YtdbcmocokoondaaT15
set_option maxRecDepth 100000
set_option maxHeartbeats 1000000
set_option linter.unusedVariables false
set_option linter.unusedSimpArgs false
namespace Go.Proofs.Ytdbcmocokoondaa
open Go.RowKit

/-- What cells by numbers are. -/
structure CelOk (c : Cel) : Prop where
  t : 0 ≤ c.1 ∧ c.1 < 4
  a : (0 ≤ c.2.1 ∧ c.2.1 ≤ 15) ∨ (65520 ≤ c.2.1 ∧ c.2.1 ≤ 65535)
  v : 0 ≤ c.2.2 ∧ c.2.2 ≤ 65535
  r : cellR c = true
theorem cellG_ok (k : Int) : CelOk (cellG k) := by
  have h1 := digR k 4 (n := 16) (by omega)
  have h2 := digR k 1024 (n := 65536) (by omega)
  have ha : (0 ≤ (keyG k).2 ∧ (keyG k).2 ≤ 15) ∨ (65520 ≤ (keyG k).2 ∧ (keyG k).2 ≤ 65535) := by
    unfold keyG
    by_cases h : dig k 64 16 = 0
    · rw [if_pos h]; simp only; omega
    · rw [if_neg h]; simp only; omega
  have ht : 0 ≤ (keyG k).1 ∧ (keyG k).1 < 4 := by unfold keyG; simp only; omega
  unfold cellG
  generalize keyG k = K at *
  generalize dig k 1024 65536 = d at *
  refine ⟨ht, ha, ?_, ?_⟩
  · simp only; split <;> omega
  · simp only [cellR, keyR]
    by_cases h : K.1 < 2
    · rw [if_pos h]
      have : d % 2 ≤ 1 := by omega
      simp [this]
      omega
    · rw [if_neg h]
      have h0 : ¬ K.1 = 0 := by omega
      have h1 : ¬ K.1 = 1 := by omega
      simp [h0, h1]
      omega
section
variable {t a v b : Int} (ha : (0 ≤ a ∧ a ≤ 15) ∨ (65520 ≤ a ∧ a ≤ 65535)) (hb : 100 ≤ b ∧ b ≤ 1000)
include ha hb
theorem hit_one : hitL [(t, a, v)] t b = false := by
  unfold hitL
  split
  · rename_i c h
    have := List.mem_of_getElem? h
    simp at this
    subst this
    simp
    omega
  · rfl
theorem rest_one : restL [(t, a, v)] (t, b, b + 1) = [(t, b, b + 1)] := by
  unfold restL findL
  simp only [List.length_cons, List.length_nil, Nat.zero_add]
  by_cases h : a < b
  · have : bsF (belK [(t, a, v)] t b) 1 0 1 = 1 := by simp [bsF, belK, lessK, h]
    rw [this]
    simp [restF]
    omega
  · have : bsF (belK [(t, a, v)] t b) 1 0 1 = 0 := by simp [bsF, belK, lessK, h]
    rw [this]
    have h2 : ¬ a < b + 1 := by omega
    simp [restF, h2]
    omega
end
abbrev M4 (R : List Spn) (W : List Cel) : Mo := ⟨1, [(0, 4, ⟨0, R, W⟩)]⟩
theorem wr_one {t a v : Int} (h : cellR (t, a, v) = true) : writeR ⟨1, 1, 1⟩ (M4 [] []) 4 [(t, a, v)] = (0, M4 [] [(t, a, v)]) := by
  have hm : mayL [(t, a, v)] = true := by simp [mayL, rightL, h]
  unfold writeR
  rw [hm]
  rfl
theorem once_one {c : Cel} (h : cellR c = true) : onceL [c] = true := by simp [onceL, onceF, h]
theorem ins_one {c : Cel} (h : cellR c = true) : insR ⟨0, 0, 2, []⟩ [c] = (1, 0, ⟨1, 1, 2, [((c.1, c.2.1), [(1, c.2.2)])]⟩) := by
  unfold insR
  rw [once_one h]
  rfl
theorem com_one {c : Cel} (h : cellR c = true) : comR ⟨0, 0, 2, []⟩ (M4 [] [c]) 4 = (1, 0, ⟨1, 1, 2, [((c.1, c.2.1), [(1, c.2.2)])]⟩, ⟨1, []⟩) := by
  have e : comR ⟨0, 0, 2, []⟩ (M4 [] [c]) 4 = ((insR ⟨0, 0, 2, []⟩ [c]).1, (insR ⟨0, 0, 2, []⟩ [c]).2.1, (insR ⟨0, 0, 2, []⟩ [c]).2.2, ⟨1, []⟩) := rfl
  rw [e, ins_one h]
theorem cellR_far {t b : Int} (ht : 0 ≤ t ∧ t < 4) (hb : 100 ≤ b ∧ b ≤ 1000) : cellR (t, b, 0) = true := by
  simp [cellR, keyR]
  omega
theorem wr_two {t a v : Int} (ht : 0 ≤ t ∧ t < 4) (ha : (0 ≤ a ∧ a ≤ 15) ∨ (65520 ≤ a ∧ a ≤ 65535)) : writeR ⟨1, 1, 1⟩ (M4 [] [(t, a, v)]) 4 [(t, 500, 0)] = (4, ⟨1, []⟩) := by
  have hm : mayL [(t, 500, 0)] = true := by simp [mayL, rightL, cellR_far ht (b := 500) (by omega)]
  have hp : (putsL [(t, a, v)] [(t, 500, 0)]).length = 2 := by
    have hh := hit_one (t := t) (v := v) ha (b := 500) (by omega)
    have hf := findL_le [(t, a, v)] t 500
    show (putL [(t, a, v)] (t, 500, 0)).length = 2
    unfold putL
    simp only [hh]
    simp at hf ⊢
    omega
  have e : vwrR [(t, a, v)] [(t, 500, 0)] 1 = ([(t, a, v)], 4) := by
    unfold vwrR
    rw [hp]
    rfl
  unfold writeR
  rw [hm]
  show ((vwrR [(t, a, v)] [(t, 500, 0)] 1).2, keepR (M4 [] [(t, a, v)]) 4 ⟨0, [], (vwrR [(t, a, v)] [(t, 500, 0)] 1).1⟩ (vwrR [(t, a, v)] [(t, 500, 0)] 1).2) = _
  rw [e]
  rfl
theorem rd_one {t a v : Int} {s : St} (ht : 0 ≤ t ∧ t < 4) (ha : (0 ≤ a ∧ a ≤ 15) ∨ (65520 ≤ a ∧ a ≤ 65535)) : readR ⟨1, 1, 1⟩ s (M4 [] [(t, a, v)]) 4 (t, 500, 501) = (lookL s.L [(t, a, v)] 0 (t, 500, 501), 0, M4 [(t, 500, 501)] [(t, a, v)]) := by
  have hs : spnR (t, 500, 501) = true := by simp [spnR]; omega
  have hr : restL [(t, a, v)] (t, 500, 501) = [(t, 500, 501)] := rest_one ha (b := 500) (by omega)
  have e : vrdR s.L 0 [] [(t, a, v)] (t, 500, 501) 1 = ([(t, 500, 501)], lookL s.L [(t, a, v)] 0 (t, 500, 501), 0) := by
    unfold vrdR
    rw [hr]
    rfl
  unfold readR
  rw [hs]
  show ((vrdR s.L 0 [] [(t, a, v)] (t, 500, 501) 1).2.1, (vrdR s.L 0 [] [(t, a, v)] (t, 500, 501) 1).2.2, keepR (M4 [] [(t, a, v)]) 4 ⟨0, (vrdR s.L 0 [] [(t, a, v)] (t, 500, 501) 1).1, [(t, a, v)]⟩ (vrdR s.L 0 [] [(t, a, v)] (t, 500, 501) 1).2.2) = _
  rw [e]
  rfl
theorem rd_two {t a v : Int} {s : St} (ht : 0 ≤ t ∧ t < 4) (ha : (0 ≤ a ∧ a ≤ 15) ∨ (65520 ≤ a ∧ a ≤ 65535)) : readR ⟨1, 1, 1⟩ s (M4 [(t, 500, 501)] [(t, a, v)]) 4 (t, 600, 601) = ([], 4, ⟨1, []⟩) := by
  have hs : spnR (t, 600, 601) = true := by simp [spnR]; omega
  have hr : restL [(t, a, v)] (t, 600, 601) = [(t, 600, 601)] := rest_one ha (b := 600) (by omega)
  have hadd : addsS [(t, 500, 501)] [(t, 600, 601)] = [(t, 500, 501), (t, 600, 601)] := by
    show addS [(t, 500, 501)] (t, 600, 601) = _
    simp [addS, foldS, stepS, aheadS]
  have e : vrdR s.L 0 [(t, 500, 501)] [(t, a, v)] (t, 600, 601) 1 = ([(t, 500, 501)], [], 4) := by
    unfold vrdR
    rw [hr, hadd]
    rfl
  unfold readR
  rw [hs]
  show ((vrdR s.L 0 [(t, 500, 501)] [(t, a, v)] (t, 600, 601) 1).2.1, (vrdR s.L 0 [(t, 500, 501)] [(t, a, v)] (t, 600, 601) 1).2.2, keepR (M4 [(t, 500, 501)] [(t, a, v)]) 4 ⟨0, (vrdR s.L 0 [(t, 500, 501)] [(t, a, v)] (t, 600, 601) 1).1, [(t, a, v)]⟩ (vrdR s.L 0 [(t, 500, 501)] [(t, a, v)] (t, 600, 601) 1).2.2) = _
  rw [e]
  rfl
theorem com_two {t a v : Int} : comR ⟨1, 1, 2, [((t, 500), [(1, 0)])]⟩ (M4 [(t, 500, 501)] [(t, a, v)]) 4 = (0, 7, ⟨1, 1, 2, [((t, 500), [(1, 0)])]⟩, ⟨1, []⟩) := by
  have hc : (clashS [((t, 500), [(1, 0)])] 0 [(t, 500, 501)]).isSome = true := by
    simp [clashS, firstA, chK, idxK, newL]
  have e : comR ⟨1, 1, 2, [((t, 500), [(1, 0)])]⟩ (M4 [(t, 500, 501)] [(t, a, v)]) 4 = if (clashS [((t, 500), [(1, 0)])] 0 [(t, 500, 501)]).isSome then (0, 7, ⟨1, 1, 2, [((t, 500), [(1, 0)])]⟩, ⟨1, []⟩) else ((insR ⟨1, 1, 2, [((t, 500), [(1, 0)])]⟩ [(t, a, v)]).1, (insR ⟨1, 1, 2, [((t, 500), [(1, 0)])]⟩ [(t, a, v)]).2.1, (insR ⟨1, 1, 2, [((t, 500), [(1, 0)])]⟩ [(t, a, v)]).2.2, ⟨1, []⟩) := rfl
  rw [e, if_pos hc]
theorem at_one {t a v : Int} : atL (chK [((t, a), [(1, v)])] (t, a)) 1 = v := by
  simp [chK, idxK, atL, upL, bsF]
theorem at_far {t a : Int} (ha : (0 ≤ a ∧ a ≤ 15) ∨ (65520 ≤ a ∧ a ≤ 65535)) : atL (chK [((t, 500), [(1, 0)])] (t, a)) 1 = 0 := by
  have h : ¬ (500 : Int) = a := by omega
  have hk : chK [((t, 500), [(1, 0)])] (t, a) = [] := by
    have : (((t, 500) : Key) == (t, a)) = false := by simpa using h
    unfold chK idxK
    rw [List.findIdx_cons, this]
    rfl
  rw [hk]
  rfl
theorem goE {e : En} {s : St} {M : Mo} (h : M.get 4 = none) : FnOk Try.prog 20 [vC (.ptr 0 0), vI .i64 4] (eO e s M) (.tup [eVw 0 [] [], .c (.t (.bool false))]) (eO e s M) := by
  have := eView_ok (e := e) (s := s) (M := M) (k := 4) (fun v hv => by rw [h] at hv; cases hv)
  rw [h] at this
  exact this
theorem rdS {s : St} {t a q r : Int} (hs : StOk s) (h : atL (chK s.L (t, a)) q = r) : FnOk Try.prog 21 [vC (.ptr 0 0), vK t a, vI .u64 q] [stB s 1, stM s] (vI .u16 r) [stB s 1, stM s] := by
  have := sRead_ok hs (t := t) (a := a) (q := q)
  rw [h] at this
  exact this
theorem vwOk_none : VwOk ⟨0, [], []⟩ := ⟨by decide, by decide, by simp, by simp⟩
theorem spb {t b : Int} (hb : 100 ≤ b ∧ b ≤ 1000) : SpB (t, b, b + 1) := ⟨by simp only; omega, by simp only; omega⟩
theorem vwOk_c {c : Cel} (h : CelOk c) : VwOk ⟨0, [], [c]⟩ := ⟨by simp, by simp, by simp, fun x hx => by simp at hx; subst hx; have := h.a; exact ⟨by omega, by omega⟩⟩
theorem vwOk_rc {c : Cel} (h : CelOk c) : VwOk ⟨0, [(c.1, 500, 501)], [c]⟩ := ⟨by simp, by simp, fun x hx => by simp at hx; subst hx; exact ⟨by simp, by simp⟩, fun x hx => by simp at hx; subst hx; have := h.a; exact ⟨by omega, by omega⟩⟩
theorem g02 : StGo ⟨0, 0, 2, []⟩ := stGo_small rfl ⟨by decide, by decide⟩ ⟨by decide, by decide⟩ ⟨by decide, by decide⟩
theorem g12 {k : Key} {v : Int} : StGo ⟨1, 1, 2, [(k, [(1, v)])]⟩ := ⟨by simp, fun e he => by simp at he; subst he; exact ⟨by simp, by simp⟩, ⟨by simp, by simp⟩, ⟨by simp, by simp⟩, ⟨by simp, by simp⟩⟩
theorem txnEnds_ok {wh k : Int} (hw : b64 wh) (hk : b64 k) : FnOk Try.prog 4 [vI .i64 wh, vI .i64 k] [] (vB true) [] := by
  have h0 := awake21_ok
  have h1 : FnOk Try.prog 6 [vI .u64 0, vI .i64 2] [] (vC (.ptr 0 0)) [stB ⟨0, 0, 2, []⟩ 1, stM ⟨0, 0, 2, []⟩] := sNew_ok (a := 0) (m := 2)
  have h2 : FnOk Try.prog 7 [vC (.ptr 0 0), vI .i64 1, vI .i64 1, vI .i64 1] [stB ⟨0, 0, 2, []⟩ 1, stM ⟨0, 0, 2, []⟩] (vC (.ptr 2 0)) [stB ⟨0, 0, 2, []⟩ 1, stM ⟨0, 0, 2, []⟩, enL ⟨1, 1, 1⟩, eM ⟨0, []⟩] := eNew_ok (a := 1) (b := 1) (c := 1)
  have h3 := cell_ok hk
  have hc := cellG_ok k
  have h4 := eO_begin (e := ⟨1, 1, 1⟩) (s := ⟨0, 0, 2, []⟩) (M := ⟨0, []⟩) (M' := M4 [] []) (k := 4) (r := 0) rfl
  generalize cellG k = c at *
  have h5 := eO_write (e := ⟨1, 1, 1⟩) (s := ⟨0, 0, 2, []⟩) (M := M4 [] []) (M' := M4 [] [c]) (k := 4) (l := [c]) (r := 0) (by simp) (vwOk_one rfl vwOk_none) (wr_one hc.r)
  have h6 := within_ok (k := wh) (n := 5) hw (by omega)
  have hr : wh % 5 = 0 ∨ wh % 5 = 1 ∨ wh % 5 = 2 ∨ wh % 5 = 3 ∨ wh % 5 = 4 := by omega
  have e1 := goE (e := ⟨1, 1, 1⟩) (s := ⟨0, 0, 2, []⟩) (M := ⟨1, []⟩) rfl
  have e2 := eO_commit (e := ⟨1, 1, 1⟩) (s := ⟨0, 0, 2, []⟩) (s' := ⟨0, 0, 2, []⟩) (M := ⟨1, []⟩) (M' := ⟨1, []⟩) (k := 4) (a := 0) (r := 5) g02 (fun v hv => by cases hv) rfl
  have e3 := sLast_ok (s := ⟨0, 0, 2, []⟩)
  have e4 := rdS (s := ⟨0, 0, 2, []⟩) (t := c.1) (a := c.2.1) (q := 0) (r := 0) g02.ok rfl
  have e5 := eO_begin (e := ⟨1, 1, 1⟩) (s := ⟨0, 0, 2, []⟩) (M := ⟨1, []⟩) (M' := ⟨2, [(1, 4, ⟨0, [], []⟩)]⟩) (k := 4) (r := 0) rfl
  rcases hr with hr | hr | hr | hr | hr
  · rw [hr] at h6
    have f1 := eO_commit (e := ⟨1, 1, 1⟩) g02 (vwOk_one rfl (vwOk_c hc)) (com_one hc.r)
    have f2 := goE (e := ⟨1, 1, 1⟩) (s := ⟨1, 1, 2, [((c.1, c.2.1), [(1, c.2.2)])]⟩) (M := ⟨1, []⟩) rfl
    have f3 := eO_commit (e := ⟨1, 1, 1⟩) (s := ⟨1, 1, 2, [((c.1, c.2.1), [(1, c.2.2)])]⟩) (s' := ⟨1, 1, 2, [((c.1, c.2.1), [(1, c.2.2)])]⟩) (M := ⟨1, []⟩) (M' := ⟨1, []⟩) (k := 4) (a := 0) (r := 5) g12 (fun v hv => by cases hv) rfl
    have f4 := sLast_ok (s := ⟨1, 1, 2, [((c.1, c.2.1), [(1, c.2.2)])]⟩)
    have f5 := rdS (s := ⟨1, 1, 2, [((c.1, c.2.1), [(1, c.2.2)])]⟩) (t := c.1) (a := c.2.1) (q := 1) g12.ok at_one
    have f6 := eO_begin (e := ⟨1, 1, 1⟩) (s := ⟨1, 1, 2, [((c.1, c.2.1), [(1, c.2.2)])]⟩) (M := ⟨1, []⟩) (M' := ⟨2, [(1, 4, ⟨1, [], []⟩)]⟩) (k := 4) (r := 0) rfl
    refine FnOk.tree t4 (.f [] h0 (.o [] [] h1 (.o [0, 1] [] h2 (.f [] h3 (.o [2, 0, 1, 3] [] h4 (.a (.b 42 false) (.o [2, 0, 1, 3] [] h5 (.a (.b 48 false) (.f [] h6 (.a (.b 51 true) (.o [2, 0, 1, 3] [] f1
      (.f [] h6 (.a (.b 121 true) (.o [2, 0, 1, 3] [] f2 (.o [2, 0, 1, 3] [] f3 (.a (.b 137 true) (.a (.b 141 true) (.a (.b 145 true) (.o [0, 1] [] f4 (.o [0, 1] [] f5 (.a (.b 155 true) (.o [2, 0, 1, 3] [] f6 .nil)))))))))))))))))))))) rfl rfl rfl rfl ?_
    repeat' apply And.intro
    all_goals first | trivial | rfl | simp [leVs, leP, leE, leL, leC, rwC, rwS, rI]
  · rw [hr] at h6
    have f1 : FnOk Try.prog 15 [vC (.ptr 0 0), vI .i64 4] (eO ⟨1, 1, 1⟩ ⟨0, 0, 2, []⟩ (M4 [] [c])) (vB true) (eO ⟨1, 1, 1⟩ ⟨0, 0, 2, []⟩ ⟨1, []⟩) := abort_ok
    refine FnOk.tree t4 (.f [] h0 (.o [] [] h1 (.o [0, 1] [] h2 (.f [] h3 (.o [2, 0, 1, 3] [] h4 (.a (.b 42 false) (.o [2, 0, 1, 3] [] h5 (.a (.b 48 false) (.f [] h6 (.a (.b 51 false) (.a (.b 58 true) (.o [2, 0, 1, 3] [] f1
      (.f [] h6 (.a (.b 121 false) (.o [2, 0, 1, 3] [] e1 (.o [2, 0, 1, 3] [] e2 (.a (.b 137 true) (.a (.b 141 true) (.a (.b 145 true) (.o [0, 1] [] e3 (.o [0, 1] [] e4 (.a (.b 155 true) (.o [2, 0, 1, 3] [] e5 .nil))))))))))))))))))))))) rfl rfl rfl rfl ?_
    repeat' apply And.intro
    all_goals first | trivial | rfl | simp [leVs, leP, leE, leL, leC, rwC, rwS, rI]
  · rw [hr] at h6
    have f1 := eO_write (e := ⟨1, 1, 1⟩) (s := ⟨0, 0, 2, []⟩) (l := [(c.1, 500, 0)]) (by simp) (vwOk_one rfl (vwOk_c hc)) (wr_two hc.t hc.a (v := c.2.2))
    refine FnOk.tree t4 (.f [] h0 (.o [] [] h1 (.o [0, 1] [] h2 (.f [] h3 (.o [2, 0, 1, 3] [] h4 (.a (.b 42 false) (.o [2, 0, 1, 3] [] h5 (.a (.b 48 false) (.f [] h6 (.a (.b 51 false) (.a (.b 58 false) (.a (.b 63 true) (.o [2, 0, 1, 3] [] f1
      (.f [] h6 (.a (.b 121 false) (.o [2, 0, 1, 3] [] e1 (.o [2, 0, 1, 3] [] e2 (.a (.b 137 true) (.a (.b 141 true) (.a (.b 145 true) (.o [0, 1] [] e3 (.o [0, 1] [] e4 (.a (.b 155 true) (.o [2, 0, 1, 3] [] e5 .nil)))))))))))))))))))))))) rfl rfl rfl rfl ?_
    repeat' apply And.intro
    all_goals first | trivial | rfl | simp [leVs, leP, leE, leL, leC, rwC, rwS, rI]
  · rw [hr] at h6
    have f1 := eO_read (e := ⟨1, 1, 1⟩) (s := ⟨0, 0, 2, []⟩) g02.ok (vwOk_one rfl (vwOk_c hc)) (rd_one hc.t hc.a (v := c.2.2))
    have f2 := eO_read (e := ⟨1, 1, 1⟩) (s := ⟨0, 0, 2, []⟩) g02.ok (vwOk_one rfl (vwOk_rc hc)) (rd_two hc.t hc.a (v := c.2.2))
    refine FnOk.tree t4 (.f [] h0 (.o [] [] h1 (.o [0, 1] [] h2 (.f [] h3 (.o [2, 0, 1, 3] [] h4 (.a (.b 42 false) (.o [2, 0, 1, 3] [] h5 (.a (.b 48 false) (.f [] h6 (.a (.b 51 false) (.a (.b 58 false) (.a (.b 63 false) (.a (.b 70 true) (.o [2, 0, 1, 3] [] f1 (.o [2, 0, 1, 3] [] f2 (.a (.b 89 false)
      (.f [] h6 (.a (.b 121 false) (.o [2, 0, 1, 3] [] e1 (.o [2, 0, 1, 3] [] e2 (.a (.b 137 true) (.a (.b 141 true) (.a (.b 145 true) (.o [0, 1] [] e3 (.o [0, 1] [] e4 (.a (.b 155 true) (.o [2, 0, 1, 3] [] e5 .nil))))))))))))))))))))))))))) rfl rfl rfl rfl ?_
    repeat' apply And.intro
    all_goals first | trivial | rfl | simp [leVs, leP, leE, leL, leC, rwC, rwS, rI]
  · rw [hr] at h6
    have f1 := eO_read (e := ⟨1, 1, 1⟩) (s := ⟨0, 0, 2, []⟩) g02.ok (vwOk_one rfl (vwOk_c hc)) (rd_one hc.t hc.a (v := c.2.2))
    have f2 := sO_inst (s := ⟨0, 0, 2, []⟩) (l := [(c.1, 500, 0)]) g02 (by simp) (ins_one (cellR_far hc.t (b := 500) (by omega)))
    have f3 := eO_commit (e := ⟨1, 1, 1⟩) g12 (vwOk_one rfl (vwOk_rc hc)) (com_two (t := c.1) (a := c.2.1) (v := c.2.2))
    have f4 := goE (e := ⟨1, 1, 1⟩) (s := ⟨1, 1, 2, [((c.1, 500), [(1, 0)])]⟩) (M := ⟨1, []⟩) rfl
    have f5 := eO_commit (e := ⟨1, 1, 1⟩) (s := ⟨1, 1, 2, [((c.1, 500), [(1, 0)])]⟩) (s' := ⟨1, 1, 2, [((c.1, 500), [(1, 0)])]⟩) (M := ⟨1, []⟩) (M' := ⟨1, []⟩) (k := 4) (a := 0) (r := 5) g12 (fun v hv => by cases hv) rfl
    have f6 := sLast_ok (s := ⟨1, 1, 2, [((c.1, 500), [(1, 0)])]⟩)
    have f7 := rdS (s := ⟨1, 1, 2, [((c.1, 500), [(1, 0)])]⟩) (t := c.1) (a := c.2.1) (q := 1) g12.ok (at_far hc.a)
    have f8 := eO_begin (e := ⟨1, 1, 1⟩) (s := ⟨1, 1, 2, [((c.1, 500), [(1, 0)])]⟩) (M := ⟨1, []⟩) (M' := ⟨2, [(1, 4, ⟨1, [], []⟩)]⟩) (k := 4) (r := 0) rfl
    refine FnOk.tree t4 (.f [] h0 (.o [] [] h1 (.o [0, 1] [] h2 (.f [] h3 (.o [2, 0, 1, 3] [] h4 (.a (.b 42 false) (.o [2, 0, 1, 3] [] h5 (.a (.b 48 false) (.f [] h6 (.a (.b 51 false) (.a (.b 58 false) (.a (.b 63 false) (.a (.b 70 false) (.a (.b 90 true) (.o [2, 0, 1, 3] [] f1 (.o [0, 1] [] f2 (.o [2, 0, 1, 3] [] f3 (.a (.b 115 false) (.a (.b 118 false)
      (.f [] h6 (.a (.b 121 false) (.o [2, 0, 1, 3] [] f4 (.o [2, 0, 1, 3] [] f5 (.a (.b 137 true) (.a (.b 141 true) (.a (.b 145 true) (.o [0, 1] [] f6 (.o [0, 1] [] f7 (.a (.b 155 true) (.o [2, 0, 1, 3] [] f8 .nil)))))))))))))))))))))))))))))) rfl rfl rfl rfl ?_
    repeat' apply And.intro
    all_goals first | trivial | rfl | simp [leVs, leP, leE, leL, leC, rwC, rwS, rI]
end Go.Proofs.Ytdbcmocokoondaa
