/-
  What is left out of sight, and functions out of their code.
-/
import Derived.Test.YtheaeddojcebjaaK19
set_option linter.unusedVariables false
set_option linter.unusedSimpArgs false
namespace Go.Proofs.Ytheaeddojcebjaa
open Go.RowKit

def bkEnv (σ τ : List Nat) (hl : List Ob) (ρ : Env) : List Nat → Option Env
  | [] => some []
  | t :: ts => match get ρ t with
    | none => none
    | some v => match v.bk σ τ hl, bkEnv σ τ hl ρ ts with
      | some v', some r => some ((t, v') :: r)
      | _, _ => none
section
variable {N n0 : Nat} {w0 : World} {g0 : Gh} {h0 : Nat → Ob} {df : List Deferred} {a : Act} {w : World} {ρ ρ' : Env} {hl hs : List Ob} {σ τ live : List Nat}
theorem bkEnv_ok {g : Gh} (hR : Rl w g (hx hl)) (he : EnvAll w g a ρ) : ∀ {live : List Nat} {ρ' : Env}, (∀ t ∈ live, ∀ v, get ρ t = some v → v.Vw σ τ hl) → bkEnv σ τ hl ρ live = some ρ' → EnvAll w (g.sub (hx hl) σ τ) a ρ'
  | [], ρ', hk, h => by cases h; intro t v hv; cases hv
  | t :: ts, ρ', hk, h => by
    unfold bkEnv at h
    split at h
    · cases h
    · rename_i v hv
      split at h
      · rename_i v' r h1 h2
        cases h
        intro t' x hx'
        simp only [get] at hx'
        by_cases ht : t = t'
        · subst ht
          simp at hx'
          subst hx'
          exact bkV_ok hR (fun _ _ => rfl) (he t v hv) (hk t (by simp) v hv) h1
        · rw [beqF ht] at hx'
          exact bkEnv_ok hR he (fun t ht => hk t (by simp [ht])) h2 t' x hx'
      · cases h
theorem sub_own {g : Gh} (hbo : listM (Ob.bk σ hl) (σ.map (hx hl)) = some hs) : ∀ b, Own (g.sub (hx hl) σ τ) (hx hs) b → Own g (hx hl) b := by
  obtain ⟨l1, l2⟩ := listM_ok hbo
  rintro b ⟨j, hj, hf⟩
  have hjl := hx_live hj
  obtain ⟨a, a1, a2⟩ := l2 j _ (List.getElem?_eq_getElem hjl)
  rw [List.getElem?_map] at a1
  cases hi : σ[j]? with
  | none => simp [hi] at a1
  | some i =>
    simp [hi] at a1
    simp only [Gh.sub, hi] at hf
    refine ⟨i, ?_, hf⟩
    rw [a1]
    cases a with
    | dead => simp [Ob.bk] at a2; simp [hx, List.getD_eq_getElem?_getD, List.getElem?_eq_getElem hjl, ← a2] at hj; cases hj
    | _ => rfl
theorem sub_all {g : Gh} (hR : Rl w g (hx hl)) (hn0 : n0 ≤ hl.length) (hF : Frl w0 g0 h0 n0 w g (hx hl)) (hbo : listM (Ob.bk σ hl) (σ.map (hx hl)) = some hs) (hnd : (σ ++ τ).Nodup) (hpre : σ.take n0 = List.range n0) :
    n0 ≤ hs.length ∧ Rl w (g.sub (hx hl) σ τ) (hx hs) ∧ (∀ i, hs.length ≤ i → (g.sub (hx hl) σ τ).μ i = none) ∧ Frl w0 g0 h0 n0 w (g.sub (hx hl) σ τ) (hx hs) := by
  have hnds := List.nodup_append.1 hnd
  have hlen : hs.length = σ.length := by rw [← (listM_ok hbo).1]; simp
  have hp : ∀ i, i < n0 → σ[i]? = some i := fun i hi => by
    have : (σ.take n0)[i]? = some i := by rw [hpre, List.getElem?_range hi]
    rwa [List.getElem?_take_of_lt hi] at this
  have hn : n0 ≤ σ.length := by
    rcases Nat.lt_or_ge σ.length n0 with h | h
    · have := hp _ h; simp at this
    · exact h
  refine ⟨by omega, hR.sub (fun _ _ => rfl) (fun _ _ => rfl) hnds.1 (fun i hi hj => hnds.2.2 i hi i hj rfl) hbo, fun i hi => ?_, ?_⟩
  · simp [Gh.sub, List.getElem?_eq_none (show σ.length ≤ i by omega)]
  · refine ⟨hF.keeps, fun b hb => .inl (hF.I b hb), fun b hb => ?_, fun i hi => ?_, fun b hb => hF.own b (sub_own hbo b hb)⟩
    · rcases hb with hb | ⟨i, _, i2, i3⟩
      · exact hF.In b hb
      · rcases hF.own b ⟨i, i2, i3⟩ with h | h
        · exact .inr (.inl h)
        · exact .inr (.inr h)
    · rw [Gh.sub_μ (hp i hi)]; exact hF.μ i hi
theorem At.sub (hat : At N n0 w0 g0 h0 df a w ρ hl) (hbo : listM (Ob.bk σ hl) (σ.map (hx hl)) = some hs) (hvw : ∀ t ∈ live, ∀ v, get ρ t = some v → v.Vw σ τ hl) (hρ : bkEnv σ τ hl ρ live = some ρ') (hnd : (σ ++ τ).Nodup) (hpre : σ.take n0 = List.range n0) : At N n0 w0 g0 h0 df a w ρ' hs := by
  obtain ⟨h1, h2, h3, g, hR, hμ, he, hF⟩ := hat
  obtain ⟨q1, q2, q3, q4⟩ := sub_all (τ := τ) hR h3 hF hbo hnd hpre
  exact ⟨h1, h2, q1, _, q2, q3, bkEnv_ok hR he hvw hρ, q4⟩
end
section
variable {P : Program} {N n0 : Nat} {ρ ρ' : Env} {hl hs : List Ob} {Q : Exit → Env → List Ob → Prop}
theorem Tri.sub {c : AC} (σ τ live : List Nat) (hbo : listM (Ob.bk σ hl) (σ.map (hx hl)) = some hs) (hvw : ∀ t ∈ live, ∀ v, get ρ t = some v → v.Vw σ τ hl) (hρ : bkEnv σ τ hl ρ live = some ρ') (hnd : (σ ++ τ).Nodup) (hpre : σ.take n0 = List.range n0) (h : Tri P N n0 c ρ' hs Q) : Tri P N n0 c ρ hl Q :=
  fun code hc w0 g0 h0 df a w ha => h code hc w0 g0 h0 df a w (ha.sub hbo hvw hρ hnd hpre)
/-- Only what the temporaries of a list hold is kept. -/
def keepE (ρ : Env) : List Nat → Option Env
  | [] => some []
  | t :: ts => match get ρ t, keepE ρ ts with
    | some v, some r => some ((t, v) :: r)
    | _, _ => none
theorem keepE_ok : ∀ {live : List Nat} {ρ' : Env}, keepE ρ live = some ρ' → ∀ t v, get ρ' t = some v → get ρ t = some v
  | [], ρ', h, t, v, hv => by cases h; cases hv
  | u :: ts, ρ', h, t, v, hv => by
    unfold keepE at h
    split at h
    · rename_i x r h1 h2
      cases h
      simp only [get] at hv
      by_cases ht : u = t
      · subst ht; simp at hv; subst hv; exact h1
      · rw [beqF ht] at hv
        exact keepE_ok h2 t v hv
    · cases h
theorem At.keep {N n0 : Nat} {w0 : World} {g0 : Gh} {h0 : Nat → Ob} {df : List Deferred} {a : Act} {w : World} {live : List Nat} (hat : At N n0 w0 g0 h0 df a w ρ hl) (hk : keepE ρ live = some ρ') : At N n0 w0 g0 h0 df a w ρ' hl := by
  obtain ⟨h1, h2, h3, g, hR, hμ, he, hF⟩ := hat
  exact ⟨h1, h2, h3, g, hR, hμ, fun t v hv => he t v (keepE_ok hk t v hv), hF⟩
theorem Tri.keep {c : AC} (live : List Nat) (hk : keepE ρ live = some ρ') (h : Tri P N n0 c ρ' hl Q) : Tri P N n0 c ρ hl Q :=
  fun code hc w0 g0 h0 df a w ha => h code hc w0 g0 h0 df a w (ha.keep hk)
/-- A value that is none yet, as a list of the call's own. -/
theorem Tri.own {c : AC} (t sz : Nat) (hsz : 0 < sz) (ht : get ρ t = some (vD .nil)) (h : Tri P N n0 c ((t, vC (.sl hl.length 0 0)) :: ρ) (hl ++ [.arr sz []]) Q) : Tri P N n0 c ρ hl Q := by
  intro code hc w0 g0 h0 df a w ⟨h1, h2, h3, g, hR, hμ, he, hF⟩
  refine h code hc w0 g0 h0 df a w ?_
  have hd : hx hl hl.length = .dead := by simp [hx, List.getD_eq_getElem?_getD]
  have hv := rv_d (he t _ ht)
  obtain ⟨q1, q2⟩ := alloc1 (w' := w) (base := hl.length) hR (Keeps.refl _ _) (fun i hi => by rw [isNew1] at hi; subst hi; exact ⟨hμ _ (Nat.le_refl _), hd⟩) ⟨0, true, sz, 0⟩ (fun _ => False) (.arr sz []) (fun b hb => hb.elim)
    ⟨hsz, _, Gh.set_at _ _ _ _, rfl, .inl ⟨rfl, rfl, rfl, fun b hb => by rw [Gh.set_fp] at hb; exact hb⟩⟩ .u []
  have happ : hx (hl ++ [.arr sz []]) = Res.app { v := .u, nw := [.arr sz []] } hl.length (hx hl) := by
    have := appL_get (s := { v := .u, nw := [.arr sz []] }) (hl := hl) (fun i hi => by simp [Res.ids] at hi)
    simpa [appL, setAll] using this
  refine ⟨h1, h2, by simp; omega, _, by rw [happ]; exact q1, fun i hi => ?_, fun t' v hv' => ?_, by rw [happ]; exact hF.step q2 h3 (fun i h1 h2 => app_same (s := { v := .u, nw := [.arr sz []] }) h1 h2)⟩
  · simp at hi
    have : ¬ i = hl.length := by omega
    simp only [Gh.set, if_neg this]
    exact hμ i (by omega)
  · simp only [get] at hv'
    by_cases htt : t = t'
    · subst htt
      simp at hv'
      subst hv'
      cases hva : a.eval (.tmp t) with
      | slice A n cp =>
        rw [hva] at hv
        cases hv
        exact .e (.c (.slz (l := ⟨0, true, sz, 0⟩) 0 A (Gh.set_at _ _ _ _) rfl))
      | _ => rw [hva] at hv; cases hv
    · rw [beqF htt] at hv'
      exact (he t' v hv').more (fun _ _ => rfl) q2.gm
end
/-- What a function gives back. -/
def arE (ρ : Env) (hl : List Ob) : AR → Option (Prop × E)
  | .tmp t => match get ρ t with
    | some (.e e) => some (True, e)
    | _ => none
  | .cell t n => match get ρ t with
    | some (.e (.c (.ptr id off))) => match hx hl id with
      | .box cs => match sub1 cs off n with
        | some (p, .e e) => some (p, e)
        | _ => none
      | _ => none
    | _ => none
def arEs (ρ : Env) (hl : List Ob) : List AR → Option (Prop × List E)
  | [] => some (True, [])
  | .tmp t :: rs => match get ρ t, arEs ρ hl rs with
    | some (.e e), some (q, es) => some (q, e :: es)
    | _, _ => none
  | .cell t n :: rs => match arE ρ hl (.cell t n), arEs ρ hl rs with
    | some (p, e), some (q, es) => some (p ∧ q, e :: es)
    | _, _ => none
theorem arEs_cons {ρ : Env} {hl : List Ob} {r : AR} {rs : List AR} {p : Prop} {l : List E} (h : arEs ρ hl (r :: rs) = some (p, l)) : ∃ q e q' es, arE ρ hl r = some (q, e) ∧ arEs ρ hl rs = some (q', es) ∧ l = e :: es ∧ (p → q ∧ q') := by
  cases r with
  | tmp t =>
    simp only [arEs] at h
    split at h
    · rename_i e q es h1 h2
      cases h
      exact ⟨True, e, _, es, by simp only [arE, h1], h2, rfl, fun h => ⟨trivial, h⟩⟩
    · cases h
  | cell t n =>
    simp only [arEs] at h
    split at h
    · rename_i q e q' es h1 h2
      cases h
      exact ⟨_, e, _, es, h1, h2, rfl, fun h => h⟩
    · cases h
def oneV : List E → V
  | [e] => .e e
  | es => .tup es
def env0 (k : Nat) : List V → Env
  | [] => []
  | v :: r => (k, v) :: env0 (k + 1) r
/-- The end of a function: what is given back, and what objects are left. -/
def Fin (res : List AR) (n0 : Nat) (ρ : Env) (hl : List Ob) (r : V) (hs : List Ob) : Prop :=
  ∃ σ τ p es, arEs ρ hl res = some (p, es) ∧ p ∧ (oneV es).Vw σ τ hl ∧ (oneV es).bk σ τ hl = some r ∧ listM (Ob.bk σ hl) (σ.map (hx hl)) = some hs ∧ (σ ++ τ).Nodup ∧ σ.take n0 = List.range n0
section
variable {P : Program}
theorem env0_get : ∀ (vs : List V) (k t : Nat) (v : V), get (env0 k vs) t = some v → ∃ j, t = k + j ∧ vs[j]? = some v
  | [], k, t, v, h => by cases h
  | x :: vs, k, t, v, h => by
    simp only [env0, get] at h
    by_cases hk : k = t
    · subst hk; simp at h; subst h; exact ⟨0, rfl, rfl⟩
    · rw [beqF hk] at h
      obtain ⟨j, h1, h2⟩ := env0_get vs (k + 1) t v h
      exact ⟨j + 1, by omega, by simpa using h2⟩
theorem results_ok {w : World} {g : Gh} {a : Act} {ρ : Env} {hl : List Ob} (hR : Rl w g (hx hl)) (he : EnvAll w g a ρ) {fn : Func} {ars : List AR} {p : Prop} {es : List E} (htr : listM (trR P) fn.results.toList = some ars) (h : arEs ρ hl ars = some (p, es)) (hp : p) :
    ∃ v, (results fn a.tmps).run P w = .ok v w ∧ RV w g v (oneV es) := by
  have key : ∀ (l : List ResultVar) (ars : List AR) (p : Prop) (es : List E), listM (trR P) l = some ars → arEs ρ hl ars = some (p, es) → p →
      ∃ vs : List Value, (l.mapM fun | .tmp t => pure (a.tmps.getD t undef) | .cell b t => do loadVar t (← asAddr (a.tmps.getD b undef)) : Sem (List Value)).run P w = .ok vs w ∧ vs.length = es.length ∧ ∀ (j : Nat) e, es[j]? = some e → ∃ v, vs[j]? = some v ∧ RE w g v e := by
    intro l
    induction l with
    | nil => intro ars p es h1 h2 h3; simp [listM] at h1; subst h1; cases h2; exact ⟨[], by simp, rfl, fun j e hj => by simp at hj⟩
    | cons r l ih =>
      intro ars p es h1 h2 h3
      unfold listM at h1
      cases hr : trR P r with
      | none => simp [hr] at h1
      | some ar => cases hl' : listM (trR P) l with
        | none => simp [hr, hl'] at h1
        | some ars' =>
          simp [hr, hl'] at h1
          subst h1
          · obtain ⟨q, e, q', es', e1, e2, rfl, h3'⟩ := arEs_cons h2
            have h3 := h3' h3
            obtain ⟨vs, i1, i2, i3⟩ := ih ars' _ _ hl' e2 h3.2
            have hhead : ∃ v, (match r with | .tmp t => pure (a.tmps.getD t undef) | .cell b t => do loadVar t (← asAddr (a.tmps.getD b undef)) : Sem Value).run P w = .ok v w ∧ RE w g v e := by
              cases r with
              | tmp t =>
                simp [trR] at hr
                subst hr
                simp only [arE] at e1
                split at e1
                · rename_i e0 hg
                  cases e1
                  exact ⟨a.tmps.getD t undef, rfl, rv_e (he t _ hg)⟩
                · cases e1
              | cell b t =>
                cases hc : cellsB P t with
                | none => simp [trR, hc] at hr
                | some n =>
                  simp [trR, hc] at hr
                  subst hr
                  simp only [arE] at e1
                  split at e1
                  · rename_i id off hg
                    split at e1
                    · rename_i cs hid
                      split at e1
                      · rename_i q0 e0 hs
                        cases e1
                        have r1 := rv_c (he b _ hg)
                        obtain ⟨l, arr, ty, m1, m2, m3, m4, m5, _⟩ := hid ▸ hR.objs id (by rw [hid]; rfl)
                        have hcell : ∀ j, w.cell? ⟨l.blk, j, none⟩ = arr[j]? := fun j => cell_of_row _ l.blk j arr ty _ m3
                        have hev : a.tmps.getD b undef = a.eval (.tmp b) := rfl
                        show ∃ v, (do loadVar t (← asAddr (a.tmps.getD b undef)) : Sem Value).run P w = .ok v w ∧ RE w g v _
                        rw [hev]
                        generalize a.eval (.tmp b) = u at *
                        cases r1 with
                        | ptr _ hμ hn =>
                          rename_i l'
                          obtain rfl : l = l' := Option.some.inj (m1.symm.trans hμ)
                          have hload : ∀ v, (Instr.loadAt t (.pointer (some ⟨l.blk, off, none⟩))).run P w = .ok v w → (do loadVar t (← asAddr (.pointer (some ⟨l.blk, off, none⟩))) : Sem Value).run P w = .ok v w := fun v h => by simpa [Instr.loadAt, Instr.sureAddr, asAddr] using h
                          cases n with
                          | none =>
                            simp only [sub1] at hs
                            split at hs
                            · rename_i c hcj
                              cases hs
                              obtain ⟨u, u1, u2⟩ := m5 _ c hcj
                              exact ⟨u, hload _ (run_loadVar (P := P) (w := w) hc l.blk off (fun _ => u) (fun j hj => by simp at hj; subst hj; rw [hcell, Nat.add_zero]; exact u1)), .c u2⟩
                            · cases hs
                          | some n =>
                            have hlen : off + n ≤ cs.length ∧ e = .agg ((cs.drop off).take n) := by
                              simp only [sub1] at hs
                              cases hb : (Nat.beq off 0 && Nat.beq n cs.length) with
                              | true =>
                                rw [hb] at hs
                                simp only [cond_true] at hs
                                cases hs
                                simp only [Bool.and_eq_true] at hb
                                obtain rfl := Nat.eq_of_beq_eq_true hb.1
                                obtain rfl := Nat.eq_of_beq_eq_true hb.2
                                simp
                              | false =>
                                rw [hb] at hs
                                simp only [cond_false] at hs
                                cases hs
                                exact ⟨h3.1, rfl⟩
                            obtain ⟨hle, rfl⟩ := hlen
                            have hrun := run_loadVar (P := P) (w := w) hc l.blk off (fun j => (arr[off + j]?).getD undef) (fun j hj => by
                              simp at hj
                              rw [hcell]
                              have : off + j < arr.size := by omega
                              simp [this])
                            refine ⟨_, hload _ hrun, ?_⟩
                            have := cells_of (w := w) (g := g) (cs := (cs.drop off).take n) (n := n) (f := fun j => (arr[off + j]?).getD undef) (by simp; omega) (fun j c hj => by
                              rw [List.getElem?_take] at hj
                              split at hj
                              · rw [List.getElem?_drop] at hj
                                obtain ⟨u, u1, u2⟩ := m5 _ c hj
                                rw [u1]; exact u2
                              · cases hj)
                            exact .agg _ _ this.1 this.2
                      · cases e1
                    · cases e1
                  · cases e1
            obtain ⟨v, v1, v2⟩ := hhead
            refine ⟨v :: vs, ?_, by simp [i2], fun j e' hj => ?_⟩
            · rw [List.mapM_cons]
              simp only [Sem.run_bind, v1, Result.andThen_ok, i1, Sem.run_pure]
            · cases j with
              | zero => simp at hj; subst hj; exact ⟨v, rfl, v2⟩
              | succ j => simpa using i3 j e' (by simpa using hj)
  obtain ⟨vs, i1, i2, i3⟩ := key _ ars p es htr h hp
  have hm : ((fn.results.toList.mapM fun | .tmp t => pure (a.tmps.getD t undef) | .cell b t => do loadVar t (← asAddr (a.tmps.getD b undef)) : Sem (List Value)).run P w) = .ok vs w := i1
  unfold results
  rw [Array.mapM_eq_mapM_toList, map_eq_pure_bind]
  generalize hF : (List.mapM (m := Sem) (β := Value) _ fn.results.toList) = F
  have hm2 : F.run P w = .ok vs w := by rw [← hF]; exact hm
  simp only [Sem.run_bind, hm2, Result.andThen_ok, Sem.run_pure]
  refine ⟨_, rfl, ?_⟩
  have hsz : vs.toArray.size = es.length := by simp [i2]
  by_cases h1 : vs.toArray.size = 1
  · rw [dif_pos h1]
    rw [hsz] at h1
    obtain ⟨e, rfl⟩ := List.length_eq_one_iff.1 h1
    obtain ⟨x, rfl⟩ := List.length_eq_one_iff.1 (i2.trans h1)
    obtain ⟨v, v1, v2⟩ := i3 0 e rfl
    simp at v1
    subst v1
    exact .e v2
  · rw [dif_neg h1]
    have ho : oneV es = .tup es := by
      match es, hsz ▸ h1 with
      | [], _ => rfl
      | [e], h => exact absurd rfl h
      | _ :: _ :: _, _ => rfl
    rw [ho]
    exact .tup _ _ hsz fun j e hj => by simpa using i3 j e hj
theorem FnOk.intro {f : FuncId} {fn : Func} {af : AF} {vs : List V} {hs hs' : List Ob} {r : V} (hf : P.funcs[f]? = some fn) (htr : trF P fn = some af) (hnm : fn.name ≠ "runtime.NumGoroutine") (hlen : vs.length = af.np)
    (h : Tri P af.N hs.length af.body (env0 0 vs) hs (fun ex ρ hl => (ex = .normal ∨ ex = .ret) ∧ ∃ r0 hs0, Fin af.res hs.length ρ hl r0 hs0 ∧ V.le r0 r ∧ LeOs hs0 hs')) : FnOk P f vs hs r hs' := by
  unfold trF at htr
  split at htr
  · cases htr
  · rename_i c hb
    split at htr
    · rename_i b rs h1 h2
      split at htr
      · rename_i hle
        cases htr
        refine ⟨⟨fn, hf, by simp [hb], hnm⟩, fun w g args hR hμ hsz hv => ?_⟩
        simp only at hlen h
        refine calls_of_wp hf hb (wp_mono (h c h1 w g (hx hs) [] _ w ⟨by simp; omega, rfl, Nat.le_refl _, g, hR, hμ, ?_, Frl.refl _ _ _ _⟩) fun ex a' w' ⟨ρ', hl', ⟨hex, r0, hs0, hfin, hle, hlo⟩, hat⟩ => ?_)
        · intro t v hg
          obtain ⟨j, rfl, hj⟩ := env0_get vs 0 t v hg
          rw [Nat.zero_add]
          have hjl : j < args.size := by have := (List.getElem?_eq_some_iff.1 hj).1; omega
          have e : Act.eval { tmps := args ++ Array.replicate (fn.ntmps - args.size) undef, defers := [] } (.tmp j) = args[j] := by
            simp [Act.eval, Array.getD, hjl, Array.getElem_append_left]
            intro h
            omega
          rw [e]
          exact hv j _ v (by simp [hjl]) hj
        · obtain ⟨σ, τ, p, es, q1, q2, qv, q3, q4, q5, q6⟩ := hfin
          obtain ⟨_, hd, hn, g', hR', hμ', he', hF'⟩ := hat
          obtain ⟨v, v1, v2⟩ := results_ok hR' he' h2 q1 q2
          obtain ⟨k1, k2, k3, k4⟩ := sub_all (τ := τ) hR' hn hF' q4 q5 q6
          have key : Ending.returned v = Ending.returned v := rfl
          have hgoal : ∃ v', (results fn a'.tmps).run P w' = .ok v' w' ∧ ∃ x g'', Ending.returned v' = Ending.returned x ∧ RV w' g'' x r ∧ Rl w' g'' (hx hs') ∧ Fr w g hs w' g'' hs' :=
            ⟨v, v1, v, _, rfl, (bkV_ok hR' (fun _ _ => rfl) v2 qv q3).le hle, k2.le hlo.at, ⟨hlo.len ▸ k1, k4.keeps, k4.I, k4.In, k4.μ, hlo.len ▸ k3, fun b ⟨i, i1, i2⟩ => k4.own b ⟨i, (hlo.at i).le_live.symm.trans i1, i2⟩⟩⟩
          rcases hex with rfl | rfl
          · exact ⟨hd, hgoal⟩
          · exact ⟨hd, hgoal⟩
      · cases htr
    · cases htr
end
end Go.Proofs.Ytheaeddojcebjaa
