/-
  TxnClashes.
-/
import Derived.Test.YtpnbncdclgmegaaT20a
import Derived.Test.YtpnbncdclgmegaaT0s
import Derived.Test.YtpnbncdclgmegaaT6m
import Derived.Test.YtpnbncdclgmegaaC1c
set_option maxRecDepth 100000
set_option maxHeartbeats 1000000
set_option linter.unusedVariables false
set_option linter.unusedSimpArgs false
namespace Go.Proofs.Ytpnbncdclgmegaa
open Go.RowKit

theorem rest_nil {t f g : Int} (h : f < g) : restL [] (t, f, g) = [(t, f, g)] := by
  unfold restL
  have : findL [] t f = 0 := Nat.le_zero.1 (findL_le [] t f)
  simp [this, restF, h]
theorem adds_nil (s : Spn) : addsS [] [s] = [s] := rfl
theorem may_one' {c : Cel} (h : cellR c = true) : mayL [c] = true := by simp [mayL, rightL, h]
theorem once_one' {c : Cel} (h : cellR c = true) : onceL [c] = true := by simp [onceL, onceF, h]
/-- The first key of a span that stands in a chain of one key, written once. -/
theorem first_one {t ct ca v : Int} : ∀ (n : Nat) (a : Int), (firstA [((ct, ca), [(1, v)])] 0 t n a).isSome = (ct == t && (decide (a ≤ ca) && decide (ca < a + n)))
  | 0, a => by
    have : (decide (a ≤ ca) && decide (ca < a + ((0 : Nat) : Int))) = false := by
      rw [← Bool.decide_and]
      exact decide_eq_false (by omega)
    rw [this]
    simp [firstA]
  | n + 1, a => by
    unfold firstA
    rw [chK_cons, chK_nil]
    by_cases h : (ct, ca) = (t, a)
    · rw [if_pos h]
      obtain ⟨h1, h2⟩ := Prod.mk.inj h
      subst h1 h2
      simp [newL]
      omega
    · rw [if_neg h]
      simp only [newL, List.length_nil, if_true, Int.lt_irrefl, if_false]
      rw [first_one n (a + 1)]
      by_cases ht : ct = t
      · subst ht
        have hne : ca ≠ a := fun e => h (by rw [e])
        simp only [BEq.rfl, Bool.true_and]
        rw [← Bool.decide_and, ← Bool.decide_and]
        apply decide_eq_decide.2
        omega
      · have : (ct == t) = false := by simpa using ht
        rw [this]
        rfl
abbrev kS : St := ⟨0, 0, 100, []⟩
abbrev kT : En := ⟨4, 20, 20⟩
abbrev kM (R : List Spn) (W : List Cel) : Mo := ⟨1, [(0, 7, ⟨0, R, W⟩)]⟩
abbrev kS1 (c : Cel) : St := ⟨1, 1, 100, [((c.1, c.2.1), [(1, c.2.2)])]⟩
def kS2 (c : Cel) : St := ⟨2, 2, 100, addK [((c.1, c.2.1), [(1, c.2.2)])] (0, 900) (2, 1)⟩
theorem kS_go : StGo kS := stGo_small rfl ⟨by decide, by decide⟩ ⟨by decide, by decide⟩ ⟨by decide, by decide⟩
theorem kS1_go (c : Cel) : StGo (kS1 c) := ⟨by simp, fun e he => by simp at he; subst he; exact ⟨by simp, by simp⟩, ⟨by simp, by simp⟩, ⟨by simp, by simp⟩, ⟨by simp, by simp⟩⟩
theorem kS2_go (c : Cel) : StGo (kS2 c) := ⟨by
    have := (addK_len [((c.1, c.2.1), [(1, c.2.2)])] (0, 900) (2, 1)).2
    simp only [kS2, List.length_cons, List.length_nil] at this ⊢
    omega, fun e he => by
    have h := addK_ok (m := 1) (L := [((c.1, c.2.1), [(1, c.2.2)])]) (k := (0, 900)) (v := (2, 1)) (fun e he => by simp at he; subst he; exact ⟨by simp, by simp⟩)
    have := h e he
    omega, ⟨by simp [kS2], by simp [kS2]⟩, ⟨by simp [kS2], by simp [kS2]⟩, ⟨by simp [kS2], by simp [kS2]⟩⟩
theorem k_read {t f g : Int} (h : spnR (t, f, g) = true) (hfg : f < g) : readR kT kS (kM [] []) 7 (t, f, g) = (lookL [] [] 0 (t, f, g), 0, kM [(t, f, g)] []) := by
  have e : vrdR [] 0 [] [] (t, f, g) 20 = ([(t, f, g)], lookL [] [] 0 (t, f, g), 0) := by
    unfold vrdR
    rw [rest_nil hfg, adds_nil]
    rfl
  unfold readR
  rw [h]
  show ((vrdR [] 0 [] [] (t, f, g) 20).2.1, (vrdR [] 0 [] [] (t, f, g) 20).2.2, keepR (kM [] []) 7 ⟨0, (vrdR [] 0 [] [] (t, f, g) 20).1, []⟩ (vrdR [] 0 [] [] (t, f, g) 20).2.2) = _
  rw [e]
  rfl
theorem k_inst {c : Cel} (h : cellR c = true) : instR kS [c] = (1, 0, kS1 c) := by
  unfold instR
  rw [once_one' h]
  rfl
theorem k_inst2 {c : Cel} : instR (kS1 c) [(0, 900, 1)] = (2, 0, kS2 c) := by
  unfold instR
  rw [show onceL [((0 : Int), (900 : Int), (1 : Int))] = true from rfl]
  rfl
theorem k_com {R : List Spn} {c : Cel} : comR (kS1 c) (kM R [(0, 900, 1)]) 7 = if (clashS [((c.1, c.2.1), [(1, c.2.2)])] 0 R).isSome then (0, 7, kS1 c, ⟨1, []⟩) else (2, 0, kS2 c, ⟨1, []⟩) := by
  have e : comR (kS1 c) (kM R [(0, 900, 1)]) 7 = if (clashS [((c.1, c.2.1), [(1, c.2.2)])] 0 R).isSome then (0, 7, kS1 c, ⟨1, []⟩) else ((instR (kS1 c) [(0, 900, 1)]).1, (instR (kS1 c) [(0, 900, 1)]).2.1, (instR (kS1 c) [(0, 900, 1)]).2.2, ⟨1, []⟩) := rfl
  rw [e, k_inst2]
def metB (rd : Bool) (c : Cel) (s : Spn) : Bool := rd && (c.1 == s.1 && (decide (s.2.1 ≤ c.2.1) && decide (c.2.1 < s.2.2)))
theorem k_clash {rd : Bool} {c : Cel} {s : Spn} (h : s.2.1 < s.2.2) : (clashS [((c.1, c.2.1), [(1, c.2.2)])] 0 (if rd then [s] else [])).isSome = metB rd c s := by
  cases rd
  · rfl
  · simp only [if_true, clashS_cons, metB, Bool.true_and]
    have := first_one (t := s.1) (ct := c.1) (ca := c.2.1) (v := c.2.2) (s.2.2 - s.2.1).toNat s.2.1
    rw [show s.2.1 + ((s.2.2 - s.2.1).toNat : Int) = s.2.2 by omega] at this
    cases hf : firstA [((c.1, c.2.1), [(1, c.2.2)])] 0 s.1 (s.2.2 - s.2.1).toNat s.2.1 with
    | none => rw [hf] at this; simpa [clashS] using this
    | some k => rw [hf] at this; simpa using this
theorem txnClashes_ok {k m : Int} {wr rd : Bool} (hk : b64 k) (hm : b64 m) : FnOk Try.prog 4 [vI .i64 k, vI .i64 m, vB wr, vB rd] [] (vB true) [] := by
  have ha := awake21_ok
  have h1 : FnOk Try.prog 12 [vI .u64 0, vI .i64 100] [] (vC (.ptr 0 0)) [stB kS 1, stM kS] := sNew_ok (a := 0) (m := 100)
  have h2 : FnOk Try.prog 13 [vC (.ptr 0 0), vI .i64 4, vI .i64 20, vI .i64 20] [stB kS 1, stM kS] (vC (.ptr 2 0)) [stB kS 1, stM kS, enL kT, eM ⟨0, []⟩] := eNew_ok (a := 4) (b := 20) (c := 20)
  have h3 := span_ok hk
  have h4 := cell_ok hm
  have hc := cellG_ok m
  obtain ⟨r1, r2, r3, r4, r5⟩ := spanG_rng k
  generalize cellG m = c at *
  obtain ⟨ct, ca, cv⟩ := c
  generalize spanG k = s0 at *
  obtain ⟨t, f, g0⟩ := s0
  simp only at r1 r2 r3 r4 r5
  obtain ⟨g, hg⟩ : ∃ g, (if f + 60 < g0 then f + 60 else g0) = g := ⟨_, rfl⟩
  have hfg : f < g ∧ g ≤ 65536 ∧ g ≤ f + 60 := by rw [← hg]; split <;> omega
  have hsp : spnR (t, f, g) = true := by simp [spnR]; omega
  have ht := hc.t; have hca := hc.a; have hcr := hc.r
  simp only at ht hca
  have h5 := eO_begin (e := kT) (s := kS) (M := ⟨0, []⟩) (M' := kM [] []) (k := 7) (r := 0) rfl
  refine FnOk.start t4 rfl rfl rfl ?_
  refine Tri.seq (Tri.go [] rfl trivial ?_)
  refine Tri.seq (Tri.tree (.f [] ha (.a (.b 21 false) .nil)) rfl ⟨trivial, by simp [leVs], rfl, ?_⟩)
  refine Tri.seq (Tri.tree (.o [] [] h1 .nil) rfl ?_)
  repeat ((with_reducible apply And.intro); focus (first | exact True.intro | (simp [leVs, leP, leE, leEs, leL, leC, rI, rwC, rwS]; done) | omega | exact rfl))
  refine Tri.seq (Tri.go [] rfl ⟨trivial, trivial⟩ ?_)
  refine Tri.seq (Tri.tree (.o [0, 1] [] h2 .nil) rfl ?_)
  repeat ((with_reducible apply And.intro); focus (first | exact True.intro | (simp [leVs, leP, leE, leEs, leL, leC, rI, rwC, rwS]; done) | omega | exact rfl))
  refine Tri.seq (Tri.tree (.f [] h3 (.f [] h4 .nil)) rfl ?_)
  repeat ((with_reducible apply And.intro); focus (first | exact True.intro | (simp [leVs, leP, leE, leEs, leL, leC, rI, rwC, rwS]; done) | omega | exact rfl))
  refine Tri.mid (fun ρ hl => hl = [stB kS 1, stM kS, enL kT, eM ⟨0, []⟩] ++ [bxS (t, f, g), .box [.t (.int .i64 ct), .t (.int .i64 ca), .t (.int .u16 cv)]] ∧ keepE ρ [2, 3, 9, 10, 11, 12] = some [(2, vB wr), (3, vB rd), (9, vC (.ptr 0 0)), (10, vC (.ptr 2 0)), (11, vC (.ptr 4 0)), (12, vC (.ptr 5 0))]) ?_ ?_
  · exact Tri.tree .nil rfl ⟨⟨by simp only; omega, by simp only; omega⟩, trivial, by rw [← hg]; rfl, keep_of rfl rfl⟩
  rintro ρ hl' ⟨rfl, hkk⟩
  refine Tri.keep _ hkk ?_
  refine Tri.seq (Tri.tree (.o [2, 0, 1, 3] [] h5 (.a (.b 44 false) .nil)) rfl ?_)
  repeat ((with_reducible apply And.intro); focus (first | exact True.intro | (simp [leVs, leP, leE, leEs, leL, leC, rI, rwC, rwS]; done) | omega | exact rfl))
  have h6 : FnOk Try.prog 18 [vC (.ptr 0 0), vI .i64 7, vS3 (t, f, g)] (eO kT kS (kM [] [])) (vWE (lookL [] [] 0 (t, f, g)) 0) (eO kT kS (kM [(t, f, g)] [])) := eO_read kS_go.ok (vwOk_one rfl ⟨by simp, by simp, by simp, by simp⟩) (k_read hsp hfg.1)
  obtain ⟨R, hR⟩ : ∃ R : List Spn, R = (if rd then [(t, f, g)] else []) := ⟨_, rfl⟩
  have hRo : R.length ≤ 1 ∧ ∀ x ∈ R, SpB x := by
    rw [hR]
    cases rd
    · simp
    · refine ⟨by simp, fun x hx => ?_⟩
      simp at hx
      subst hx
      exact ⟨by simp only; omega, by simp only; omega⟩
  refine Tri.mid (fun ρ hl => hl = [stB kS 1, stM kS, enL kT, eM (kM R [])] ++ [bxS (t, f, g), .box [.t (.int .i64 ct), .t (.int .i64 ca), .t (.int .u16 cv)]] ∧ keepE ρ [2, 3, 9, 10, 11, 12] = some [(2, vB wr), (3, vB rd), (9, vC (.ptr 0 0)), (10, vC (.ptr 2 0)), (11, vC (.ptr 4 0)), (12, vC (.ptr 5 0))]) ?_ ?_
  · cases rd
    · simp only [Bool.false_eq_true, if_false] at hR
      subst hR
      exact Tri.go [.b 45 false] rfl ⟨rfl, trivial⟩ ⟨rfl, keep_of rfl rfl⟩
    · simp only [if_true] at hR
      subst hR
      refine Tri.tree (.a (.b 45 true) (.o [2, 0, 1, 3] [] h6 (.a (.b 53 false) .nil))) rfl ?_
      repeat ((with_reducible apply And.intro); focus (first | exact True.intro | (simp [leVs, leP, leE, leEs, leL, leC, rI, rwC, rwS]; done) | omega | exact rfl))
      exact ⟨rfl, keep_of rfl rfl⟩
  rintro ρ hl' ⟨rfl, hkk⟩
  refine Tri.keep _ hkk ?_
  have h7 : FnOk Try.prog 20 [vC (.ptr 0 0), vI .i64 7, vCl [(0, 900, 1)]] (eO kT kS (kM R [])) (vI .i64 0) (eO kT kS (kM R [(0, 900, 1)])) := eO_write (by simp) (vwOk_one rfl ⟨by simp only; omega, by simp, hRo.2, by simp⟩) (by kernel_rfl)
  obtain ⟨W, hW⟩ : ∃ W : List Cel, W = (if wr then [(0, 900, 1)] else []) := ⟨_, rfl⟩
  refine Tri.mid (fun ρ hl => hl = [stB kS 1, stM kS, enL kT, eM (kM R W)] ++ [bxS (t, f, g), .box [.t (.int .i64 ct), .t (.int .i64 ca), .t (.int .u16 cv)]] ∧ keepE ρ [2, 3, 9, 10, 11, 12] = some [(2, vB wr), (3, vB rd), (9, vC (.ptr 0 0)), (10, vC (.ptr 2 0)), (11, vC (.ptr 4 0)), (12, vC (.ptr 5 0))]) ?_ ?_
  · cases wr
    · simp only [Bool.false_eq_true, if_false] at hW
      subst hW
      exact Tri.go [.b 55 false, .b 62 false] rfl ⟨rfl, rfl, trivial⟩ ⟨rfl, keep_of rfl rfl⟩
    · simp only [if_true] at hW
      subst hW
      refine Tri.tree (.a (.b 55 true) (.o [2, 0, 1, 3] [] h7 (.a (.b 62 false) .nil))) rfl ?_
      repeat ((with_reducible apply And.intro); focus (first | exact True.intro | (simp [leVs, leP, leE, leEs, leL, leC, rI, rwC, rwS]; done) | omega | exact rfl))
      exact ⟨rfl, keep_of rfl rfl⟩
  rintro ρ hl' ⟨rfl, hkk⟩
  refine Tri.keep _ hkk ?_
  have h8 := sO_inst (s := kS) (s' := kS1 (ct, ca, cv)) (l := [(ct, ca, cv)]) (a := 1) (r := 0) kS_go (by simp) (k_inst hcr)
  refine Tri.seq (Tri.tree (.o [0, 1] [] h8 (.a (.b 71 false) .nil)) rfl ?_)
  repeat ((with_reducible apply And.intro); focus (first | exact True.intro | (simp [leVs, leP, leE, leEs, leL, leC, rI, rwC, rwS]; done) | omega | exact rfl))
  have hcl := k_clash (rd := rd) (c := (ct, ca, cv)) (s := (t, f, g)) hfg.1
  rw [← hR] at hcl
  refine Tri.mid (fun ρ hl => hl = [stB (kS1 (ct, ca, cv)) 1, stM (kS1 (ct, ca, cv)), enL kT, eM (kM R W)] ++ [bxS (t, f, g), .box [.t (.int .i64 ct), .t (.int .i64 ca), .t (.int .u16 cv)]] ∧ keepE ρ [2, 9, 10, 17] = some [(2, vB wr), (9, vC (.ptr 0 0)), (10, vC (.ptr 2 0)), (17, vB (metB rd (ct, ca, cv) (t, f, g)))]) ?_ ?_
  · cases rd
    · exact Tri.go [.b 73 false, .b 81 false, .b 89 false] rfl ⟨rfl, rfl, rfl, trivial⟩ ⟨rfl, keep_of rfl rfl⟩
    · by_cases e1 : ct = t
      · by_cases e2 : f ≤ ca
        · have hx : metB true (ct, ca, cv) (t, f, g) = decide (ca < g) := by simp [metB, e1, e2]
          rw [hx]
          refine Tri.tree (.a (.b 73 true) (.a (.b 81 true) (.a (.b 89 true) .nil))) rfl ?_
          repeat ((with_reducible apply And.intro); focus (first | exact True.intro | (simp [leVs, leP, leE, leEs, leL, leC, rI, rwC, rwS, e1, e2]; done) | omega | exact rfl))
          exact ⟨rfl, keep_of rfl rfl⟩
        · have hx : metB true (ct, ca, cv) (t, f, g) = false := by simp [metB, e2]
          rw [hx]
          refine Tri.tree (.a (.b 73 true) (.a (.b 81 true) (.a (.b 89 false) .nil))) rfl ?_
          repeat ((with_reducible apply And.intro); focus (first | exact True.intro | (simp [leVs, leP, leE, leEs, leL, leC, rI, rwC, rwS, e1, e2]; done) | omega | exact rfl))
          exact ⟨rfl, keep_of rfl rfl⟩
      · have hx : metB true (ct, ca, cv) (t, f, g) = false := by simp [metB, e1]
        rw [hx]
        refine Tri.tree (.a (.b 73 true) (.a (.b 81 false) (.a (.b 89 false) .nil))) rfl ?_
        repeat ((with_reducible apply And.intro); focus (first | exact True.intro | (simp [leVs, leP, leE, leEs, leL, leC, rI, rwC, rwS, e1]; done) | omega | exact rfl))
        exact ⟨rfl, keep_of rfl rfl⟩
  rintro ρ hl' ⟨rfl, hkk⟩
  refine Tri.keep _ hkk ?_
  generalize metB rd (ct, ca, cv) (t, f, g) = mb at *
  have hgo := kS1_go (ct, ca, cv)
  have l1 := sLast_ok (s := kS1 (ct, ca, cv))
  cases wr
  · simp only [Bool.false_eq_true, if_false] at hW
    subst hW
    have c1 := eO_commit (e := kT) (s := kS1 (ct, ca, cv)) (s' := kS1 (ct, ca, cv)) (M := kM R []) (M' := ⟨1, []⟩) (k := 7) (a := 0) (r := 0) hgo (vwOk_one rfl ⟨by simp only; omega, by simp, hRo.2, by simp⟩) rfl
    have hx : True := trivial
    refine Tri.treeR (.o [2, 0, 1, 3] [] c1 (.a (.b 102 true) (.a (.b 107 true) (.a (.b 111 true) (.o [0, 1] [] l1 .nil))))) rfl ?_
    repeat' apply And.intro
    all_goals first | exact True.intro | exact .refl _ | exact leP_refl _ | (simp [leVs, leP, leE, leEs, leL, leC, rI, rwC, rwS, hx]; done) | omega | rfl
  · simp only [if_true] at hW
    subst hW
    have hvw := vwOk_one (M := kM R [(0, 900, 1)]) (k := 7) rfl ⟨by simp only; omega, by simp, hRo.2, fun x hx => by simp at hx; subst hx; exact ⟨by simp, by simp⟩⟩
    cases mb
    · have c1 := eO_commit (e := kT) (s := kS1 (ct, ca, cv)) (s' := kS2 (ct, ca, cv)) (M := kM R [(0, 900, 1)]) (M' := ⟨1, []⟩) (k := 7) (a := 2) (r := 0) hgo hvw (by rw [k_com, hcl]; rfl)
      have l2 := sLast_ok (s := kS2 (ct, ca, cv))
      have l3 := sRead_ok (s := kS2 (ct, ca, cv)) (kS2_go _).ok (t := 0) (a := 900) (q := 2)
      have hx : atL (chK (kS2 (ct, ca, cv)).L (0, 900)) 2 = 1 := by
        have hne : ¬ ((ct, ca) : Key) = (0, 900) := fun e => by have := (Prod.mk.inj e).2; omega
        simp only [kS2, chK_addK, if_true, chK_cons, chK_nil, if_neg hne]
        rfl
      rw [hx] at l3
      have hl2 : (kS2 (ct, ca, cv)).last = 2 := rfl
      refine Tri.treeR (.o [2, 0, 1, 3] [] c1 (.a (.b 102 false) (.a (.b 116 false) (.a (.b 143 true) (.a (.b 147 true) (.o [0, 1] [] l2 (.a (.b 152 true) (.o [0, 1] [] l3 .nil)))))))) rfl ?_
      repeat' apply And.intro
      all_goals first | exact True.intro | exact .refl _ | exact leP_refl _ | (simp [leVs, leP, leE, leEs, leL, leC, rI, rwC, rwS, hl2]; done) | omega | rfl
    · have c1 := eO_commit (e := kT) (s := kS1 (ct, ca, cv)) (s' := kS1 (ct, ca, cv)) (M := kM R [(0, 900, 1)]) (M' := ⟨1, []⟩) (k := 7) (a := 0) (r := 7) hgo hvw (by rw [k_com, hcl]; rfl)
      have l3 := sRead_ok (s := kS1 (ct, ca, cv)) hgo.ok (t := 0) (a := 900) (q := 1)
      have hx : atL (chK (kS1 (ct, ca, cv)).L (0, 900)) 1 = 0 := by
        have hne : ¬ ((ct, ca) : Key) = (0, 900) := fun e => by have := (Prod.mk.inj e).2; omega
        simp only [chK_cons, chK_nil, if_neg hne]
        rfl
      rw [hx] at l3
      have l4 := noOwners (e := kT) (s := kS1 (ct, ca, cv)) (ck := 1)
      refine Tri.treeR (.o [2, 0, 1, 3] [] c1 (.a (.b 102 false) (.a (.b 116 true) (.a (.b 120 true) (.a (.b 124 true) (.o [0, 1] [] l1 (.a (.b 129 true) (.o [0, 1] [] l3 (.a (.b 135 true) (.o [2, 0, 1, 3] [] l4 .nil)))))))))) rfl ?_
      repeat' apply And.intro
      all_goals first | exact True.intro | exact .refl _ | exact leP_refl _ | (simp [leVs, leP, leE, leEs, leL, leC, rI, rwC, rwS, hx]; done) | omega | rfl
end Go.Proofs.Ytpnbncdclgmegaa
