/-
  ExecOrders.
-/
import Derived.Test.YthddlkhfkncgpaaGreatE10
import Derived.Test.YthddlkhfkncgpaaGreatM43s
set_option maxRecDepth 100000
set_option maxHeartbeats 4000000
set_option linter.unusedVariables false
set_option linter.unusedSimpArgs false
namespace Go.Proofs.YthddlkhfkncgpaaGreat
open Go.RowKit

/-- Sessions, with a configuration behind them. -/
abbrev ssK (x : Ss) (c : Cf) : List Ob := [.box [.ptr 1 0, .t (.int .i64 x.t), .ptr 5 0, .mp 7], .box [.ptr 2 0, .t (.int .i64 x.e.most), .t (.int .i64 x.e.spans), .t (.int .i64 x.e.writes), .mp 4], stB x.s 3, stM x.s, eM x.M, .box [.t (.int .i64 x.t), .mp 6], bkM x.b, aM x.A, .box c.cs]
/-- A command, by one of two functions. -/
def cmdA (b : Bool) (v : Int) : Ask := if b then { fn := 16, at_ := 100, n := 1, words := [v] } else { fn := 6, at_ := 100, val := v }
theorem cmdA_fit {b : Bool} {v : Int} (h : 0 ≤ v ∧ v ≤ 65535) : (cmdA b v).Fit := by
  cases b
  · exact fitA (by simp [cmdA, b64]) (by simp [cmdA, b64]) (by simp [cmdA, b64]) h (by simp [cmdA]) (by simp [cmdA]) (by simp [cmdA]) (by simp [cmdA]) wrd_nil (by simp [cmdA, b64]) (by simp [cmdA, b64]) (by simp [cmdA, b64]) (by simp [cmdA, b64])
  · exact fitA (by simp [cmdA, b64]) (by simp [cmdA, b64]) (by simp [cmdA, b64]) (by simp [cmdA]) (by simp [cmdA]) (by simp [cmdA]) (by simp [cmdA]) (by simp [cmdA]) (fun x hx => by simp [cmdA] at hx; subst hx; exact h) (by simp [cmdA, b64]) (by simp [cmdA, b64]) (by simp [cmdA, b64]) (by simp [cmdA, b64])
theorem cmdA_right {b : Bool} {v : Int} (h : 0 ≤ v ∧ v ≤ 65535) : (cmdA b v).right = true := by
  cases b <;> simp [cmdA, Ask.right, Ask.same, Ask.only, Ask.rest, known, placeB, countsB, kMost] <;> omega
theorem cmdA_spans {b : Bool} {v : Int} (h : 0 ≤ v ∧ v ≤ 65535) : spans (cmdA b v) = ([], [(2, 100, 101)]) := by
  have hr := cmdA_right (b := b) h
  unfold spans
  rw [if_neg (by simp [hr])]
  cases b <;> simp [cmdA, kTab]
theorem do_cmd {c : Cf} (hm : c.map = mapF) (hw : c.window = 100) {x : Ss} {k : Int} {b : Bool} {v : Int} (h : 0 ≤ v ∧ v ≤ 65535) : doR c x k (cmdA b v) = ctlR x 100 k (cmdA b v) := by
  have hr := cmdA_right (b := b) h
  have hs := cmdA_spans (b := b) h
  have e : whereS mapF 100 (2, 100, 101) = 2 := by rfl
  unfold doR
  rw [hr, hs, hm, hw, if_neg (by simp), if_neg (by cases b <;> simp [cmdA]), if_neg (by simp [e]), if_pos (by simp [e])]
theorem ctl_cmd {x : Ss} {k : Int} {b : Bool} {v : Int} : ctlR x 100 k (cmdA b v) =
    if ¬ (v = 1 ∨ v = 2 ∨ v = 3) then (failT (cmdA b v).fn 3, x)
    else if (cmdR x k v).1 = 0 then (echoT (cmdA b v), (cmdR x k v).2)
    else if (cmdR x k v).1 = 4 ∧ v = 1 then (failT (cmdA b v).fn 6, (cmdR x k v).2)
    else (failT (cmdA b v).fn 4, (cmdR x k v).2) := by
  have h3 : (cmdA b v).fn ≠ 3 := by cases b <;> simp [cmdA]
  have ho : orderR (cmdA b v) 100 = (v, true) := by cases b <;> simp [cmdA, orderR]
  unfold ctlR
  rw [if_neg h3, ho]
  simp
structure Os (o : Bool) (y : Ss) : Prop where
  w : Sw y
  e : y.e.most = 8
  s : y.s.last = 0
  st : (stG y.A 5).st = if o then 1 else 0
  M : if o = true then ∃ s q, y.M.es = [(s, 5, ⟨q, [], []⟩)] else y.M.es = []
theorem os_cmd {o : Bool} {y : Ss} (h : Os o y) {v : Int} (hv : v = 1 ∨ v = 2 ∨ v = 3) :
    ((v = 1 ↔ o = false) → (cmdR y 5 v).1 = 0 ∧ Os (!o) (cmdR y 5 v).2) ∧ (¬ (v = 1 ↔ o = false) → (cmdR y 5 v).1 ≠ 0 ∧ (cmdR y 5 v).1 ≠ 4 ∧ (cmdR y 5 v).2 = y) := by
  have hst := h.st
  have hM := h.M
  have hw := h.w.cmd (k := 5) (v := v)
  cases o with
  | false =>
    simp only [Bool.false_eq_true, if_false] at hst hM
    rcases hv with rfl | rfl | rfl
    · refine ⟨fun _ => ?_, fun hh => absurd (by simp) hh⟩
      have hg : y.M.get 5 = none := by unfold Mo.get Mo.at; rw [hM]; rfl
      have e1 : begR y.e y.s y.M 5 = (0, ⟨y.M.ck + 1, [(y.M.ck, 5, ⟨y.s.last, [], []⟩)]⟩) := by
        unfold begR
        rw [hg, if_neg (by simp), if_neg (by rw [h.e, hM]; simp)]
        unfold Mo.set Mo.at
        rw [hM]
        simp
      have e2 : cmdR y 5 1 = (0, { y with M := ⟨y.M.ck + 1, [(y.M.ck, 5, ⟨y.s.last, [], []⟩)]⟩, A := y.A.set 5 ⟨1, 0, 0, y.s.last⟩, b := y.b.set 5 y.t }) := by
        unfold cmdR
        rw [if_pos rfl]
        unfold beginR
        rw [if_neg (by rw [hst]; simp), e1, if_neg (by simp)]
      rw [e2] at hw ⊢
      exact ⟨rfl, hw, h.e, h.s, by show (stG (y.A.set 5 _) 5).st = _; rw [stG_set, if_pos rfl]; rfl, by simp⟩
    · refine ⟨fun hh => absurd hh (by simp), fun _ => ?_⟩
      have e2 : cmdR y 5 2 = (5, y) := by
        unfold cmdR
        rw [if_neg (by simp), if_pos rfl]
        unfold scomR
        rw [if_pos (by rw [hst]; rfl)]
      rw [e2]
      simp
    · refine ⟨fun hh => absurd hh (by simp), fun _ => ?_⟩
      have e2 : cmdR y 5 3 = (5, y) := by
        unfold cmdR
        rw [if_neg (by simp), if_neg (by simp)]
        unfold sabR
        rw [if_pos (by rw [hst]; rfl)]
      rw [e2]
      simp
  | true =>
    simp only [if_true] at hst hM
    obtain ⟨s, q, hM⟩ := hM
    have hdel : (y.M.del 5).es = [] := by unfold Mo.del Mo.at; rw [hM]; rfl
    rcases hv with rfl | rfl | rfl
    · refine ⟨fun hh => absurd hh (by simp), fun _ => ?_⟩
      have e2 : cmdR y 5 1 = (6, y) := by
        unfold cmdR
        rw [if_pos rfl]
        unfold beginR
        rw [if_pos (by rw [hst]; rfl)]
      rw [e2]
      simp
    · refine ⟨fun _ => ?_, fun hh => absurd (by simp) hh⟩
      have hg : y.M.get 5 = some ⟨q, [], []⟩ := by unfold Mo.get Mo.at; rw [hM]; rfl
      have e1 : comR y.s y.M 5 = (q, 0, y.s, y.M.del 5) := by unfold comR; rw [hg]; simp
      have e2 : cmdR y 5 2 = (0, turnR { y with s := y.s, M := y.M.del 5 } 5 0 (whyN 0) q) := by
        unfold cmdR
        rw [if_neg (by simp), if_pos rfl]
        unfold scomR
        rw [if_neg (by rw [hst]; simp), e1]
      rw [e2] at hw ⊢
      exact ⟨rfl, hw, h.e, h.s, by show (stG (y.A.set 5 _) 5).st = _; rw [stG_set, if_pos rfl]; rfl, hdel⟩
    · refine ⟨fun _ => ?_, fun hh => absurd (by simp) hh⟩
      have e2 : cmdR y 5 3 = (0, turnR { y with M := y.M.del 5 } 5 0 1 0) := by
        unfold cmdR
        rw [if_neg (by simp), if_neg (by simp)]
        unfold sabR
        rw [if_neg (by rw [hst]; simp)]
      rw [e2] at hw ⊢
      exact ⟨rfl, hw, h.e, h.s, by show (stG (y.A.set 5 _) 5).st = _; rw [stG_set, if_pos rfl]; rfl, hdel⟩
theorem tell_fit {fn e : Int} (h1 : b64 fn) (h2 : b64 e) : (failT fn e).Fit := ⟨h1, h2, by simp, by simp, wrd_nil, by simp [b64], by simp [b64], by simp, by simp, by simp, by simp [b64], by simp [b64], by simp [b64], by simp, fun o h => (nomatch h)⟩
theorem cmdA_echo {b : Bool} {v : Int} (h : 0 ≤ v ∧ v ≤ 65535) : (echoT (cmdA b v)).Fit ∧ (echoT (cmdA b v)).exc = 0 ∧ (echoT (cmdA b v)).fn = (cmdA b v).fn := by
  have hr := cmdA_right (b := b) h
  unfold echoT
  rw [hr]
  cases b
  · exact ⟨⟨by simp [cmdA, b64], by simp [cmdA, b64], by simp [cmdA], by simp [cmdA], wrd_nil, by simp [cmdA, b64], by simp [cmdA, b64], by simp [cmdA]; omega, by simp [cmdA], by simp [cmdA], by simp [cmdA, b64], by simp [cmdA, b64], by simp [cmdA, b64], by simp [cmdA], fun o h => (nomatch h)⟩, by simp [cmdA], by simp [cmdA]⟩
  · exact ⟨⟨by simp [cmdA, b64], by simp [cmdA, b64], by simp [cmdA], by simp [cmdA], wrd_nil, by simp [cmdA, b64], by simp [cmdA, b64], by simp [cmdA], by simp [cmdA], by simp [cmdA], by simp [cmdA, b64], by simp [cmdA, b64], by simp [cmdA, b64], by simp [cmdA], fun o h => (nomatch h)⟩, by simp [cmdA], by simp [cmdA]⟩
/-- What is told of a command. -/
def wantO (o : Bool) (v : Int) : Int := if v = 1 ∨ v = 2 ∨ v = 3 then (if (v = 1) = (o = false) then 0 else 4) else 3
theorem os_do {o : Bool} {y : Ss} (h : Os o y) {b : Bool} {v : Int} (hv : 0 ≤ v ∧ v ≤ 65535) : (doR wideC y 5 (cmdA b v)).1.exc = wantO o v ∧ (doR wideC y 5 (cmdA b v)).1.fn = (cmdA b v).fn ∧ (wantO o v = 0 → (doR wideC y 5 (cmdA b v)).1 = echoT (cmdA b v)) ∧ Os (if wantO o v = 0 then !o else o) (doR wideC y 5 (cmdA b v)).2 := by
  obtain ⟨_, he, hfn⟩ := cmdA_echo (b := b) hv
  rw [do_cmd rfl rfl hv, ctl_cmd]
  by_cases hc : v = 1 ∨ v = 2 ∨ v = 3
  · rw [if_neg (not_not_intro hc)]
    obtain ⟨h1, h2⟩ := os_cmd h hc
    have hw : wantO o v = if (v = 1) = (o = false) then 0 else 4 := by unfold wantO; rw [if_pos hc]
    by_cases hp : v = 1 ↔ o = false
    · obtain ⟨e1, e2⟩ := h1 hp
      have hw0 : wantO o v = 0 := by rw [hw, if_pos (propext hp)]
      rw [if_pos e1, hw0]
      exact ⟨he, hfn, fun _ => rfl, e2⟩
    · obtain ⟨e1, e2, e3⟩ := h2 hp
      have hw0 : wantO o v = 4 := by rw [hw, if_neg (fun e => hp (iff_of_eq e))]
      rw [if_neg e1, if_neg (by simp [e2]), hw0]
      refine ⟨rfl, rfl, fun hh => by simp at hh, ?_⟩
      simp only [e3]
      exact h
  · rw [if_pos hc]
    have hw0 : wantO o v = 3 := by unfold wantO; rw [if_neg hc]
    rw [hw0]
    exact ⟨rfl, rfl, fun hh => by simp at hh, h⟩
theorem ssC_os : Os false (ssC wideC) := ⟨ssC_w wideC_lo, by rfl, by rfl, by rfl, by rfl⟩
theorem ssK_state {x : Ss} {k : Int} : FnOk Tryz.prog 24 [vC (.ptr 0 0), vI .i64 k] (ssO x) (vSt (stG x.A k).st (stG x.A k).re x.t (stG x.A k).q) (ssO x) := state_ok
theorem execOrders_ok {ops : List Int} (hk : ∀ x ∈ ops, b64 x) (hm : ops.length ≤ 9223372036854775807) : FnOk Tryz.prog 4 [vD (lI .i64 ops)] [] (vB true) [] := by
  have ha := awake25_ok
  by_cases hn : 30 < ops.length
  · refine FnOk.tree t4 (.a (.b 15 true) (.f [] ha .nil)) rfl rfl rfl rfl ?_
    repeat' (with_reducible apply And.intro)
    all_goals first | trivial | rfl | (exact decide_eq_true (by omega)) | (simp [leVs, leP, leE, leL, leC]; done)
  have hW := wide_ok
  have hS := sessions_ok (c := wideC)
  refine FnOk.start t4 rfl rfl rfl ?_
  refine Tri.seq (Tri.go [] rfl trivial ?_)
  refine Tri.seq (Tri.tree (.a (.b 15 false) (.f [] ha .nil)) rfl ⟨decide_eq_false (by omega), trivial, by simp [leVs], ?_⟩)
  refine Tri.seq (Tri.tree (.f [] hW .nil) rfl ⟨trivial, by simp [leVs], ?_⟩)
  refine Tri.seq (Tri.tree (.o [] [] hS .nil) rfl ⟨trivial, by simp [leVs, leP, leE, leL, leC], rfl, ?_⟩)
  refine Tri.seq (Tri.go [] rfl ⟨trivial, trivial⟩ ?_)
  refine Tri.seq (Tri.go [] rfl trivial ?_)
  refine Tri.let [1, 2, 3, 4, 5, 6, 7, 8, 0] [] [0, 3, 4, 6] rfl trivial ?_
  refine Tri.mid (fun ρ hl => ∃ o y, Os o y ∧ hl = ssK y wideC ∧ keepE ρ [4] = some [(4, vC (.ptr 0 0))]) ?_ ?_
  · refine Tri.seq (Tri.go [] rfl trivial ?_)
    refine Tri.block ?_
    refine Tri.lp (fun z ρ hl => ∃ (i : Nat) (o : Bool) (y : Ss), z = ops.length - i ∧ i ≤ ops.length ∧ Os o y ∧ hl = ssK y wideC ∧
      keepE ρ [0, 3, 4, 6, 7] = some [(0, vD (lI .i64 ops)), (3, vC (.ptr 8 0)), (4, vC (.ptr 0 0)), (6, vB o), (7, vI .i64 i)]) ops.length ⟨0, false, ssC wideC, by omega, by omega, ssC_os, rfl, keep_of rfl (by simp)⟩ ?_
    rintro z ρ hl' ⟨i, o, y, rfl, hi, hO, rfl, hkk⟩
    refine Tri.keep _ hkk ?_
    by_cases h : i < ops.length
    · have hg : (rI .i64 ops)[i]? = some [.int .i64 ops[i]] := by simp [rI, h]
      have hb := hk _ (List.getElem_mem h)
      generalize ops[i] = k at *
      have hw := within_ok (k := k) (n := 6) hb (by omega)
      have hd := digit_ok (k := k) (d := 6) (n := 2) hb (by omega) (by omega)
      have hdr := digR k 6 (n := 2) (by omega)
      have hr : k % 6 = 0 ∨ k % 6 = 1 ∨ k % 6 = 2 ∨ k % 6 = 3 ∨ k % 6 = 4 ∨ k % 6 = 5 := by omega
      generalize dig k 6 2 = d at *
      generalize k % 6 = v at *
      have hv : 0 ≤ v ∧ v ≤ 65535 := by omega
      have hor := orderG_ok (v := v) (by simp only [b64]; omega)
      have hoe : orderA v = cmdA false v := by unfold orderA cmdA; rw [Int.emod_eq_of_lt (by omega) (by omega)]; rfl
      rw [hoe] at hor
      have u16 : IntKind.u16.wrap v = v := by rw [wu16]; omega
      refine Tri.seq (Tri.go [.b 31 true] rfl ⟨decide_eq_true (by omega), trivial⟩ ?_)
      refine Tri.seq (Tri.block (Tri.seq (Tri.tree (.a (.at [.int .i64 k]) (.f [] hw .nil)) rfl ⟨⟨by omega, rfl, hg⟩, trivial, by simp [leVs, leP, leE, leC], ?_⟩)))
      refine Tri.seq (Tri.tree (.f [] hor .nil) rfl ⟨trivial, by simp [leVs, leP, leE, leC], ?_⟩)
      refine Tri.mid (fun ρ hl => ∃ b, LeOs hl (ssK y wideC ++ [.box (cmdA b v).cs]) ∧ keepE ρ [0, 3, 4, 6, 7, 8, 9] = some [(0, vD (lI .i64 ops)), (3, vC (.ptr 8 0)), (4, vC (.ptr 0 0)), (6, vB o), (7, vI .i64 i), (8, vI .i64 v), (9, vC (.ptr 9 0))]) ?_ ?_
      · by_cases h1 : d = 1
        · subst h1
          refine Tri.tree (.a (.at [.int .i64 k]) (.f [] hd (.a (.b 46 true) .nil))) rfl ⟨⟨by omega, rfl, hg⟩, trivial, by simp [leVs, leP, leE, leC], rfl, trivial, by simp, true, ?_, keep_of rfl rfl⟩
          simp only [u16]
          refine .cons (.refl _) (.cons (.refl _) (.cons (.refl _) (.cons (.refl _) (.cons (.refl _) (.cons (.refl _) (.cons (.refl _) (.cons (.refl _) (.cons (.refl _) (.cons (.box ?_) .nil)))))))))
          repeat (first | exact LeCs.nil | refine LeCs.cons (.refl _) ?_ | refine LeCs.cons leF ?_ | refine LeCs.cons leI ?_)
        · exact Tri.tree (.a (.at [.int .i64 k]) (.f [] hd (.a (.b 46 false) .nil))) rfl ⟨⟨by omega, rfl, hg⟩, trivial, by simp [leVs, leP, leE, leC], by simp [h1], false, .of rfl, keep_of rfl rfl⟩
      rintro ρ hl' ⟨b, hle, hkk⟩
      refine Tri.keep _ hkk ?_
      refine Tri.wkO hle ?_
      have hdo := do_ok wideC_ok hO.w (k := 5) (cmdA_fit (b := b) hv)
      obtain ⟨q1, q2, q3, q4⟩ := os_do hO (b := b) hv
      obtain ⟨f1, f2, f3⟩ := cmdA_echo (b := b) hv
      have hfit := cmdA_fit (b := b) hv
      generalize doR wideC y 5 (cmdA b v) = r at *
      obtain ⟨t, y'⟩ := r
      simp only at q1 q2 q3 q4 hdo
      refine Tri.seq (Tri.tree (.o [0, 1, 2, 3, 4, 5, 6, 7] [] hdo .nil) rfl ⟨trivial, by simp [leVs, leP, leE, leL, leC], rfl, ?_⟩)
      have hst := ssK_state (x := y') (k := 5)
      have hec := rEcho_ok hfit
      have hsm := sameTell_ok f1
      have hst5 := q4.st
      generalize cmdA b v = a at *
      clear hkk hor hoe hd hw
      refine Tri.seq (Tri.go [] rfl trivial ?_)
      refine Tri.mid (fun ρ hl => hl = ssK y' wideC ++ [.box a.cs, .box t.cs] ∧ keepE ρ [0, 3, 4, 6, 7, 9, 10, 11] = some [(0, vD (lI .i64 ops)), (3, vC (.ptr 8 0)), (4, vC (.ptr 0 0)), (6, vB (if wantO o v = 0 then !o else o)), (7, vI .i64 i), (9, vC (.ptr 9 0)), (10, vC (.ptr 10 0)), (11, vI .i64 (wantO o v))]) ?_ ?_
      · refine Tri.block ?_
        cases o
        · rcases hr with rfl | rfl | rfl | rfl | rfl | rfl
          all_goals first | exact Tri.go [] rfl trivial ⟨rfl, keep_of rfl rfl⟩ | exact Tri.go [.b 55 true] rfl (by simp) ⟨rfl, keep_of rfl rfl⟩ | exact Tri.go [.b 55 false, .b 75 true] rfl (by simp) ⟨rfl, keep_of rfl rfl⟩ | exact Tri.go [.b 55 false, .b 75 false] rfl (by simp) ⟨rfl, keep_of rfl rfl⟩
        · rcases hr with rfl | rfl | rfl | rfl | rfl | rfl
          all_goals first | exact Tri.go [] rfl trivial ⟨rfl, keep_of rfl rfl⟩ | exact Tri.go [.b 55 true] rfl (by simp) ⟨rfl, keep_of rfl rfl⟩ | exact Tri.go [.b 55 false, .b 75 true] rfl (by simp) ⟨rfl, keep_of rfl rfl⟩ | exact Tri.go [.b 55 false, .b 75 false] rfl (by simp) ⟨rfl, keep_of rfl rfl⟩
      rintro ρ hl' ⟨rfl, hkk⟩
      refine Tri.keep _ hkk ?_
      generalize hop : (if wantO o v = 0 then !o else o) = o' at *
      have hbit : ((stG y'.A 5).st == 1) = o' := by rw [hst5]; cases o' <;> rfl
      by_cases hw0 : wantO o v = 0
      · have hte := q3 hw0
        have hsm' : FnOk Tryz.prog 22 [t.v, (echoT a).v] [] (vB true) [] := by rw [hte]; exact hsm
        refine Tri.seq (Tri.tree (.a (.b 86 false) (.a (.b 93 false) (.a (.b 96 true) (.f [] hec (.f [] hsm' (.o [0, 1, 2, 3, 4, 5, 6, 7] [] hst .nil)))))) rfl ?_)
        refine ⟨by simp [q1], by simp [q2], by simp [hw0], trivial, by simp [leVs, leP, leE, leL, leC], trivial, by simp [leVs, leP, leE, leL, leC], trivial, by simp [leVs, leP, leE, leC], rfl, trivial, ?_⟩
        refine Tri.go [.b 111 false] rfl ⟨by simp [hbit], trivial⟩ ?_
        refine Tri.let [0, 1, 2, 3, 4, 5, 6, 7, 8] [] [0, 3, 4, 6, 7] rfl trivial ?_
        exact Tri.go [] rfl ⟨by omega, trivial⟩ (again (ops.length - (i + 1)) (by omega) ⟨i + 1, o', y', rfl, by omega, q4, rfl, keep_of rfl (by simp)⟩)
      · refine Tri.seq (Tri.tree (.a (.b 86 false) (.a (.b 93 false) (.a (.b 96 false) (.o [0, 1, 2, 3, 4, 5, 6, 7] [] hst .nil)))) rfl ?_)
        refine ⟨by simp [q1], by simp [q2], by simp [hw0], trivial, by simp [leVs, leP, leE, leC], rfl, trivial, ?_⟩
        refine Tri.go [.b 111 false] rfl ⟨by simp [hbit], trivial⟩ ?_
        refine Tri.let [0, 1, 2, 3, 4, 5, 6, 7, 8] [] [0, 3, 4, 6, 7] rfl trivial ?_
        exact Tri.go [] rfl ⟨by omega, trivial⟩ (again (ops.length - (i + 1)) (by omega) ⟨i + 1, o', y', rfl, by omega, q4, rfl, keep_of rfl (by simp)⟩)
    · have : i = ops.length := by omega
      subst this
      exact Tri.go [.b 31 false] rfl ⟨decide_eq_false (by omega), trivial⟩ (outQ ⟨o, y, hO, rfl, keep_of rfl rfl⟩)
  rintro ρ hl' ⟨o, y, hO, rfl, hkk⟩
  refine Tri.keep _ hkk ?_
  have h1 := sEngine_ok (x := y)
  have h2 := eStore_ok (e := y.e) (s := y.s) (M := y.M)
  have h3 := sLast_ok (s := y.s)
  rw [hO.s] at h3
  refine Tri.treeR (.o [0, 1, 2, 3, 4, 5, 6, 7] [] h1 (.o [1, 2, 3, 4] [] h2 (.o [2, 3] [] h3 .nil))) rfl ?_
  repeat' (with_reducible apply And.intro)
  all_goals first | trivial | rfl | exact .refl _ | exact leP_refl _ | (simp [leVs, leP, leE, leEs, leL, leC]; done)
end Go.Proofs.YthddlkhfkncgpaaGreat
