/-
  SessAuto.
-/
import Derived.Test.YtpnbncdclgmegaaS5
import Derived.Test.YtpnbncdclgmegaaT20a
import Derived.Test.YtpnbncdclgmegaaT22
import Derived.Test.YtpnbncdclgmegaaC1a
set_option maxRecDepth 100000
set_option maxHeartbeats 1000000
set_option linter.unusedVariables false
set_option linter.unusedSimpArgs false
namespace Go.Proofs.Ytpnbncdclgmegaa
open Go.RowKit

abbrev aE : En := ⟨0, 0, 0⟩
abbrev aS (i : Nat) (L : Chs) : St := ⟨i, i, 100, L⟩
abbrev aX (i : Nat) (L : Chs) : Ss := ⟨3, aE, aS i L, ⟨0, []⟩, ⟨0, []⟩, ⟨0, []⟩⟩
/-- The store, and the document's cells, behind i cells. -/
structure AutoI (i : Nat) (L : Chs) (l : List Cel) : Prop where
  srt : Srt l
  ok : AllOk l
  len : l.length ≤ i
  ln : L.length ≤ i
  ch : ChOk i L
  ver : ∀ k, ∀ e ∈ chK L k, e.1 ≤ (i : Int)
  val : ∀ t a, AdB a → (getL l t a).1 = lastV (chK L (t, a))
theorem AutoI.start : AutoI 0 [] [] := ⟨.nil, by simp, by simp, by simp, fun e he => by simp at he, fun k e he => by simp [chK_nil] at he, fun t a _ => by
  have : getL [] t a = (0, false) := by unfold getL; simp
  rw [this, chK_nil]
  rfl⟩
theorem AutoI.step {i : Nat} {L : Chs} {l : List Cel} (h : AutoI i L l) {c : Cel} (hc : CelOk c) : AutoI (i + 1) (addK L (c.1, c.2.1) ((i : Int) + 1, c.2.2)) (putL l c) := by
  obtain ⟨e1, e2, _⟩ := putL_srt h.srt h.ok hc
  refine ⟨e1, e2, ?_, ?_, addK_ok h.ch, fun k e he => ?_, fun t a ha => ?_⟩
  · have := putL_len l c; have := h.len; omega
  · have := (addK_len L (c.1, c.2.1) ((i : Int) + 1, c.2.2)).2; have := h.ln; omega
  · rw [chK_addK] at he
    have hv : ∀ e ∈ chK L k, e.1 ≤ (i : Int) + 1 := fun e he => by have := h.ver k e he; omega
    split at he
    · rcases List.mem_append.1 he with he | he
      · have := hv e he; omega
      · simp at he; subst he; simp
    · have := hv e he; omega
  · rw [getL_put h.srt h.ok hc ha, chK_addK]
    by_cases hk : c.1 = t ∧ c.2.1 = a
    · rw [if_pos hk, if_pos (by rw [hk.1, hk.2]), lastV_snoc]
    · rw [if_neg hk, if_neg (fun e => hk ⟨(Prod.mk.inj e).1, (Prod.mk.inj e).2⟩)]
      exact h.val t a ha
theorem AutoI.go {i : Nat} {L : Chs} {l : List Cel} (h : AutoI i L l) (hi : i ≤ 12) : StGo (aS i L) := ⟨by have := h.ln; simp only; omega, fun e he => by have := h.ch e he; omega, ⟨by simp only; omega, by simp only; omega⟩, ⟨by simp only; omega, by simp only; omega⟩, ⟨by simp, by simp⟩⟩
theorem a_read {i : Nat} {L : Chs} {l : List Cel} (h : AutoI i L l) (hi : i ≤ 12) {c t a : Int} (ht : 0 ≤ t ∧ t < 4) (ha : AdB a) :
    FnOk Try.prog 33 [vC (.ptr 0 0), vI .i64 c, vS3 (t, a, a + 1)] (ssO (aX i L)) (vWE [lastV (chK L (t, a))] 0) (ssO (aX i L)) := by
  refine sO_read (ssGo_none (h.go hi) rfl) ?_
  have hs : spnR (t, a, a + 1) = true := by simp [spnR]; omega
  have e : sreadR (aX i L) c (t, a, a + 1) = (lookL L [] i (t, a, a + 1), 0, aX i L) := by
    unfold sreadR
    rw [hs]
    rfl
  rw [e, look_one, atL_last (h.ver _)]
theorem a_write {i : Nat} {L : Chs} {l : List Cel} (h : AutoI i L l) (hi : i ≤ 12) {s : Int} {c : Cel} (hc : CelOk c) :
    FnOk Try.prog 34 [vC (.ptr 0 0), vI .i64 s, vCl [c]] (ssO (aX i L)) (vI .i64 0) (ssO (aX (i + 1) (addK L (c.1, c.2.1) ((i : Int) + 1, c.2.2)))) := by
  refine sO_write (by simp) (ssGo_none (h.go hi) rfl) ?_
  have ho : onceL [c] = true := by simp [onceL, onceF, hc.r]
  have e : instR (aS i L) [c] = ((i : Int) + 1, 0, aS (i + 1) (addK L (c.1, c.2.1) ((i : Int) + 1, c.2.2))) := by
    unfold instR
    rw [ho]
    simp only [Bool.true_eq_false, if_false]
    rw [if_neg (by omega), if_neg (by simp only [List.length_cons, List.length_nil]; omega)]
    rfl
  have e2 : swriteR (aX i L) s [c] = ((instR (aS i L) [c]).2.1, { aX i L with s := (instR (aS i L) [c]).2.2 }) := rfl
  rw [e2, e]
theorem sessAuto_ok {ks : List Int} (hk : ∀ x ∈ ks, b64 x) (hm : ks.length ≤ 9223372036854775807) : FnOk Try.prog 6 [vD (lI .i64 ks)] [] (vB true) [] := by
  have ha := awake24_ok
  by_cases hn : 12 < ks.length
  · refine FnOk.tree t6 (.a (.b 18 true) (.a (.b 21 true) (.f [] ha .nil))) rfl rfl rfl rfl ?_
    repeat' apply And.intro
    all_goals first | trivial | rfl | (exact decide_eq_true (by omega)) | (simp [leVs, leP, leE, leL, leC]; done)
  have h1 : FnOk Try.prog 31 [vI .i64 0, vI .i64 0, vI .i64 0, vI .i64 100, vI .i64 3] [] (vC (.ptr 0 0)) (ssO (aX 0 [])) := made24_ok (a := 0) (b := 0) (c := 0) (r := 100) (t := 3)
  refine FnOk.start t6 rfl rfl rfl ?_
  refine Tri.seq (Tri.go [] rfl trivial ?_)
  refine Tri.seq (Tri.tree (.a (.b 18 false) (.f [] ha (.a (.b 21 false) .nil))) rfl ⟨decide_eq_false (by omega), trivial, by simp [leVs], rfl, ?_⟩)
  refine Tri.seq (Tri.tree (.o [] [] h1 .nil) rfl ?_)
  repeat ((with_reducible apply And.intro); focus (first | exact True.intro | (simp [leVs, leP, leE, leEs, leL, leC, rI, rwC, rwS]; done) | omega | exact rfl))
  refine Tri.seq (Tri.go [] rfl ⟨trivial, trivial⟩ ?_)
  refine Tri.seq (Tri.go [] rfl trivial ?_)
  refine Tri.wk 4 rfl (v' := vCl []) (.e (.c (.t (.nil _)))) ?_
  refine Tri.mid (fun ρ hl => ∃ i L, i ≤ 12 ∧ hl = ssO (aX i L) ∧ keepE ρ [3] = some [(3, vC (.ptr 0 0))]) ?_ ?_
  · refine Tri.seq (Tri.go [] rfl trivial ?_)
    refine Tri.block ?_
    refine Tri.lp (fun z ρ hl => ∃ i L l, z = ks.length - i ∧ i ≤ ks.length ∧ AutoI i L l ∧ hl = ssO (aX i L) ∧
      keepE ρ [0, 3, 4, 5] = some [(0, vD (lI .i64 ks)), (3, vC (.ptr 0 0)), (4, vCl l), (5, vI .i64 i)]) ks.length ⟨0, [], [], by omega, by omega, .start, rfl, keep_of rfl rfl⟩ ?_
    rintro z ρ hl' ⟨i, L, l, rfl, hi, hI, rfl, hkk⟩
    refine Tri.keep _ hkk ?_
    by_cases h : i < ks.length
    · have hg : (rI .i64 ks)[i]? = some [.int .i64 ks[i]] := by simp [rI, h]
      have hb := hk _ (List.getElem_mem h)
      generalize ks[i] = k at *
      have hcell := cell_ok hb
      have hc := cellG_ok k
      generalize cellG k = c at *
      obtain ⟨t, a, v⟩ := c
      have ht := hc.t; have had := hc.ad
      simp only at ht had
      have hI' := hI.step hc
      have hget := get16_ok (l := l) (by have := hI.len; omega) (t := t) (a := a)
      have hput := put16_ok (l := l) (by have := hI.len; omega) (c := (t, a, v))
      have hr1 := a_read hI (by omega) (c := (i : Int).tmod 3) ht had
      have hw := a_write hI (by omega) (s := (i : Int).tmod 2) hc
      have hr2 := a_read hI' (by omega) (c := (i : Int).tmod 3) ht had
      have hv1 := hI.val t a had
      have hv2 : lastV (chK (addK L (t, a) ((i : Int) + 1, v)) (t, a)) = v := by rw [chK_addK, if_pos rfl, lastV_snoc]
      simp only at hr2 hI'
      rw [hv2] at hr2
      rw [hv1] at hget
      generalize lastV (chK L (t, a)) = w at *
      generalize (getL l t a).2 = ok at *
      generalize addK L (t, a) ((i : Int) + 1, v) = L' at *
      have e1 := sEngine_ok (x := aX (i + 1) L')
      have e2 := eStore_ok (e := aE) (s := aS (i + 1) L') (M := ⟨0, []⟩)
      have e3 := sLast_ok (s := aS (i + 1) L')
      refine Tri.seq (Tri.go [.b 29 true] rfl ⟨decide_eq_true (by omega), trivial⟩ ?_)
      refine Tri.seq (Tri.block (Tri.tree (.a (.at [.int .i64 k]) (.f [] hcell (.f [] hget (.o [0, 1, 2, 3, 4, 5, 6, 7] [] hr1 (.o [0, 1, 2, 3, 4, 5, 6, 7] [] hw (.o [0, 1, 2, 3, 4, 5, 6, 7] [] hr2 (.f [] hput (.a (.b 82 false) (.a (.b 86 false) (.a (.b 90 false) (.a (.b 95 false) (.a (.b 100 false) (.a (.at [.int .u16 w]) (.a (.b 107 false) (.a (.at [.int .u16 v]) (.a (.b 115 false) (.o [0, 1, 2, 3, 4, 5, 6, 7] [] e1 (.o [1, 2, 3, 4] [] e2 (.o [2, 3] [] e3 (.a (.b 124 false) .nil)))))))))))))))))))) rfl ?_))
      have hwr : IntKind.u64.wrap ((i : Int) + 1) = (i : Int) + 1 := by
        have : IntKind.u64.wrap ((i : Int) + 1) = ((i : Int) + 1) % 18446744073709551616 := by simp [IntKind.wrap, IntKind.signed, IntKind.bits]
        rw [this]
        omega
      repeat ((with_reducible apply And.intro); focus (first | exact True.intro | exact ⟨by omega, rfl, hg⟩ | exact ⟨by simp only; omega, by simp only; omega⟩ | (simp [leVs, leP, leE, leEs, leL, leC, rI, rwC, rwS, hwr]; done) | omega | exact rfl))
      refine Tri.let [0, 1, 2, 3, 4, 5, 6, 7] [] [0, 3, 4, 5] rfl trivial ?_
      exact Tri.go [] rfl ⟨by omega, trivial⟩ (again (ks.length - (i + 1)) (by omega) ⟨i + 1, L', putL l (t, a, v), rfl, by omega, hI', rfl, keep_of rfl (by simp)⟩)
    · have : i = ks.length := by omega
      subst this
      exact Tri.seq (Tri.go [.b 29 false] rfl ⟨decide_eq_false (by omega), trivial⟩ ⟨_, _, by omega, rfl, keep_of rfl rfl⟩)
  rintro ρ hl' ⟨i, L, hi, rfl, hkk⟩
  refine Tri.keep _ hkk ?_
  have c1 := sO_state (x := aX i L) (c := 0) (v := ⟨0, 0, 0, 0⟩) rfl
  have c2 := sEngine_ok (x := aX i L)
  have c3 := noOwners (e := aE) (s := aS i L) (ck := 0)
  have c4 := sO_begin (x := aX i L) (y := aX i L) (c := 0) (r := 4) rfl
  refine Tri.treeR (.o [0, 1, 2, 3, 4, 5, 6, 7] [] c1 (.a (.b 129 true) (.o [0, 1, 2, 3, 4, 5, 6, 7] [] c2 (.o [1, 2, 3, 4] [] c3 (.a (.b 136 true) (.o [0, 1, 2, 3, 4, 5, 6, 7] [] c4 (.a (.b 141 true) (.o [0, 1, 2, 3, 4, 5, 6, 7] [] c1 .nil)))))))) rfl ?_
  repeat' apply And.intro
  all_goals first | trivial | rfl | exact .refl _ | exact leP_refl _ | omega | (simp [leVs, leP, leE, leEs, leL, leC, rI, rwC]; done)
end Go.Proofs.Ytpnbncdclgmegaa
