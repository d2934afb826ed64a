/-
  Regions: the operations' steps, one behind the other, and in the text's order.
-/
import Derived.Test.YtheaeddojcebjaaK16
set_option linter.unusedVariables false
set_option linter.unusedSimpArgs false
namespace Go.Proofs.Ytheaeddojcebjaa
open Go.RowKit

def pt (d : Option Nat) (v : V) (ρ : Env) : Env := match d with
  | some t => (t, v) :: ρ
  | none => ρ
def setAll (hl : List Ob) : List (Nat × Ob) → List Ob
  | [] => hl
  | (i, o) :: r => (setAll hl r).set i o
def appL (s : Res) (hl : List Ob) : List Ob := setAll hl s.wr ++ s.nw
structure Ft where
  rd : List Nat
  wr : List Nat
  base : Nat
  n : Nat
def Res.ft (s : Res) (base : Nat) : Ft := ⟨s.rd, s.ids, base, s.nw.length⟩
def grdB (ρ : Env) : Option (Nat × Bool) → Option Bool
  | none => some true
  | some (t, want) => match get ρ t with
    | some (.e (.c (.t (.bool b)))) => some (b == want)
    | some .u => some false
    | _ => none
/-- The operation's step. -/
def OpS (P : Program) (N : Nat) (ao : AOp) (ρ : Env) (hl : List Ob) (s : Res) : Prop := (∀ i ∈ s.ids, i < hl.length) ∧ ∀ o : Oper, trOp P o = some ao → OpR P N o ρ ao.ts hl s
def noRes : Res := { v := .u }
/-- Steps of operations in the text's order. -/
def Rg (P : Program) (N : Nat) : List AO → Env → List Ob → List Ft → (Env → List Ob → List Ft → Prop) → Prop
  | [], ρ, hl, fs, K => K ρ hl fs
  | o :: os, ρ, hl, fs, K =>
    (grdB ρ o.grd = some false ∧ Rg P N os (pt o.dst .u ρ) hl (fs ++ [noRes.ft hl.length]) K) ∨
    (grdB ρ o.grd = some true ∧ ∃ s : Res, OpS P N o.op ρ hl s ∧ Rg P N os (pt o.dst s.v ρ) (appL s hl) (fs ++ [s.ft hl.length]) K)

theorem Rg.mono' {P : Program} {N : Nat} : ∀ {os : List AO} {ρ : Env} {hl : List Ob} {fs : List Ft} {K K' : Env → List Ob → List Ft → Prop}, Rg P N os ρ hl fs K → (∀ ρ hl fs, K ρ hl fs → K' ρ hl fs) → Rg P N os ρ hl fs K'
  | [], ρ, hl, fs, K, K', h, hK => hK _ _ _ h
  | o :: os, ρ, hl, fs, K, K', h, hK => by
    rcases h with ⟨h1, h2⟩ | ⟨h1, s, h2, h3⟩
    · exact .inl ⟨h1, Rg.mono' h2 hK⟩
    · exact .inr ⟨h1, s, h2, Rg.mono' h3 hK⟩
theorem setAll_length (hl : List Ob) : ∀ (wr : List (Nat × Ob)), (setAll hl wr).length = hl.length
  | [] => rfl
  | (i, o) :: r => by simp [setAll, setAll_length hl r]
theorem appL_length (s : Res) (hl : List Ob) : (appL s hl).length = hl.length + s.nw.length := by simp [appL, setAll_length]
theorem setAll_get (hl : List Ob) : ∀ (wr : List (Nat × Ob)), (∀ i ∈ wr.map (·.1), i < hl.length) → ∀ i, hx (setAll hl wr) i = match getO wr i with | some o => o | none => hx hl i
  | [], _, i => rfl
  | (j, o) :: r, hw, i => by
    have ih := setAll_get hl r (fun k hk => hw k (by simp at hk ⊢; exact .inr hk)) i
    simp only [setAll, getO]
    have hj : j < hl.length := hw j (by simp)
    by_cases h : j = i
    · subst h
      simp [hx, List.getD_eq_getElem?_getD, setAll_length, hj]
    · rw [if_neg h, ← ih]
      simp [hx, List.getD_eq_getElem?_getD, List.getElem?_set_ne h]
theorem appL_get {s : Res} {hl : List Ob} (hw : ∀ i ∈ s.ids, i < hl.length) : hx (appL s hl) = s.app hl.length (hx hl) := by
  funext i
  have hs := setAll_get hl s.wr hw i
  have hgl : hl.length ≤ i → getO s.wr i = none := fun hi => by
    have : ∀ (wr : List (Nat × Ob)), (∀ k ∈ wr.map (·.1), k < hl.length) → getO wr i = none := by
      intro wr
      induction wr with
      | nil => intro _; rfl
      | cons p r ih =>
        intro hk
        obtain ⟨j, o⟩ := p
        have := hk j (by simp)
        simp only [getO]
        rw [if_neg (by omega)]
        exact ih (fun k hk' => hk k (by simp at hk' ⊢; exact .inr hk'))
    exact this s.wr hw
  simp only [Res.app, appL]
  by_cases hi : i < hl.length
  · have : hx (setAll hl s.wr ++ s.nw) i = hx (setAll hl s.wr) i := by
      simp [hx, List.getD_eq_getElem?_getD, List.getElem?_append_left (show i < (setAll hl s.wr).length by rw [setAll_length]; exact hi)]
    rw [this, hs]
    cases getO s.wr i with
    | some o => rfl
    | none => simp only; rw [if_neg (by omega)]
  · rw [hgl (by omega)]
    simp only
    rw [if_pos (by omega)]
    have : hx (setAll hl s.wr ++ s.nw) i = (s.nw[i - hl.length]?).getD .dead := by
      simp [hx, List.getD_eq_getElem?_getD, List.getElem?_append_right (show (setAll hl s.wr).length ≤ i by rw [setAll_length]; omega), setAll_length]
    rw [this]
    cases s.nw[i - hl.length]? with
    | some o => rfl
    | none => simp [hx, List.getD_eq_getElem?_getD, List.getElem?_eq_none (show hl.length ≤ i by omega)]

/-- What the temporaries hold. -/
def EnvAll (w : World) (g : Gh) (a : Act) (ρ : Env) : Prop := ∀ t v, get ρ t = some v → RV w g (a.eval (.tmp t)) v
theorem EnvAll.on {w : World} {g : Gh} {a : Act} {ρ : Env} (h : EnvAll w g a ρ) (ts : List Nat) : EnvOn w g a ρ ts := fun t _ v hv => h t v hv
/-- How far one has come. -/
structure Frl (w0 : World) (g0 : Gh) (h0 : Nat → Ob) (n0 : Nat) (w : World) (g : Gh) (h : Nat → Ob) : Prop where
  keeps : Keeps (Own g0 h0) w0 w
  I : ∀ b, g0.I b → g.I b
  In : ∀ b, g.I b → g0.I b ∨ Own g0 h0 b ∨ w0.heap.size ≤ b
  μ : ∀ i, i < n0 → g.μ i = g0.μ i
  own : ∀ b, Own g h b → Own g0 h0 b ∨ w0.heap.size ≤ b
theorem Frl.refl (w : World) (g : Gh) (h : Nat → Ob) (n0 : Nat) : Frl w g h n0 w g h := ⟨Keeps.refl _ _, fun _ h => h, fun _ h => .inl h, fun _ _ => rfl, fun _ h => .inl h⟩
theorem Frl.trans {w0 w w' : World} {g0 g g' : Gh} {h0 h h' : Nat → Ob} {n0 n : Nat} (a : Frl w0 g0 h0 n0 w g h) (b : Frl w g h n w' g' h') (hn : n0 ≤ n) : Frl w0 g0 h0 n0 w' g' h' := by
  have hown : ∀ b, Own g h b → b < w0.heap.size → Own g0 h0 b := fun b hb hlt => by
    rcases a.own b hb with h | h
    · exact h
    · omega
  refine ⟨a.keeps.then b.keeps (fun i hi hg => hown i hg hi), fun c hc => b.I c (a.I c hc), fun c hc => ?_, fun i hi => (b.μ i (by omega)).trans (a.μ i hi), fun c hc => ?_⟩
  · rcases b.In c hc with h | h | h
    · exact a.In c h
    · rcases a.own c h with h | h
      · exact .inr (.inl h)
      · exact .inr (.inr h)
    · exact .inr (.inr (Nat.le_trans a.keeps.size h))
  · rcases b.own c hc with h | h
    · exact a.own c h
    · exact .inr (Nat.le_trans a.keeps.size h)
theorem Frl.step {w0 w w' : World} {g0 g g' : Gh} {h0 h h' : Nat → Ob} {n0 base n : Nat} {ids : List Nat} (a : Frl w0 g0 h0 n0 w g h) (b : Go1 w g h ids base n w' g' h') (hn : n0 ≤ base) (hsame : ∀ i, i ∉ ids → ¬ isNew base n i → h' i = h i) : Frl w0 g0 h0 n0 w' g' h' := by
  have htch : ∀ c, Tch g h ids c → Own g h c := fun c ⟨i, _, h1, h2⟩ => ⟨i, h1, h2⟩
  refine a.trans (n := base) ⟨b.keeps.mono (fun c _ hc => htch c hc), b.gm.I, fun c hc => ?_, fun i hi => ?_, fun c hc => ?_⟩ hn
  · rcases b.In c hc with h | h | h
    · exact .inl h
    · exact .inr (.inl (htch c h))
    · exact .inr (.inr h)
  · cases hm : g.μ i with
    | some l => exact b.gm.μ i l hm
    | none => exact b.μn i (by unfold isNew; omega) hm
  · obtain ⟨i, h1, h2⟩ := hc
    by_cases hi : i ∈ ids ∨ isNew base n i
    · rcases b.fpn i c hi h1 h2 with h | h
      · exact .inl (htch c h)
      · exact .inr h
    · have h3 : i ∉ ids := fun h => hi (.inl h)
      have h4 : ¬ isNew base n i := fun h => hi (.inr h)
      rw [hsame i h3 h4] at h1
      rw [b.fp i h3 h4] at h2
      exact .inl ⟨i, h1, h2⟩
theorem app_same {s : Res} {base : Nat} {h : Nat → Ob} {i : Nat} (h1 : i ∉ s.ids) (h2 : ¬ isNew base s.nw.length i) : s.app base h i = h i := by
  have : ∀ (wr : List (Nat × Ob)), i ∉ wr.map (·.1) → getO wr i = none := by
    intro wr
    induction wr with
    | nil => intro _; rfl
    | cons p r ih =>
      intro hk
      simp only [List.map_cons, List.mem_cons, not_or] at hk
      simp only [getO]
      rw [if_neg (fun e => hk.1 e.symm)]
      exact ih hk.2
  simp only [Res.app, this s.wr h1]
  by_cases hb : base ≤ i
  · rw [if_pos hb, List.getElem?_eq_none (by unfold isNew at h2; omega)]
  · rw [if_neg hb]
theorem get_pt {d : Option Nat} {v : V} {ρ : Env} {t : Nat} : get (pt d v ρ) t = if d = some t then some v else get ρ t := by
  cases d with
  | none => simp [pt]
  | some k =>
    simp only [pt, get]
    by_cases h : k = t
    · subst h; simp
    · rw [beqF h]; simp [h]
theorem eval_put {a : Act} {d : Option Nat} {u : Value} {t : Nat} (hd : ∀ k, d = some k → k < a.tmps.size) : (a.put d u).eval (.tmp t) = if d = some t then u else a.eval (.tmp t) := by
  cases d with
  | none => simp [Act.put]
  | some k =>
    have hk := hd k rfl
    simp only [Act.eval, Act.put]
    by_cases h : k = t
    · subst h; simp [hk]
    · have : ¬ some k = some t := fun e => h (Option.some.inj e)
      rw [if_neg this]
      simp [Array.getElem?_setIfInBounds_ne h]
theorem EnvAll.put {w w' : World} {g g' : Gh} {a : Act} {ρ : Env} {d : Option Nat} {u : Value} {v : V} (h : EnvAll w g a ρ) (hs : Same g.I w w') (hg : Gm g g') (hu : RV w' g' u v) (hd : ∀ k, d = some k → k < a.tmps.size) : EnvAll w' g' (a.put d u) (pt d v ρ) := by
  intro t x hx
  rw [get_pt] at hx
  rw [eval_put hd]
  by_cases h1 : d = some t
  · rw [if_pos h1] at hx ⊢
    cases hx; exact hu
  · rw [if_neg h1] at hx ⊢
    exact (h t x hx).more hs hg
/-- A guard is as the temporaries say. -/
theorem grd_ok {P : Program} {N : Nat} {ops : Array Oper} {o : Oper} {ao : AO} (h : trO P N ops o = some ao) {w : World} {g : Gh} {a : Act} {ρ : Env} (he : ∀ t want, ao.grd = some (t, want) → ∀ v, get ρ t = some v → RV w g (a.eval (.tmp t)) v) {b : Bool} (hb : grdB ρ ao.grd = some b) : Region.wanted o (yielded ops a.tmps) = b := by
  unfold trO at h
  split at h
  · cases h
  · split at h
    · split at h
      · rename_i hg
        cases h
        simp only [grdB] at hb
        cases hb
        simp [Region.wanted, hg]
      · rename_i j want hg
        split at h
        · rename_i t ht
          cases h
          simp only [grdB] at hb
          simp only [Region.wanted, hg, yielded, ht, Option.bind_some]
          split at hb
          · rename_i c hc
            cases hb
            have := rv_bool (he t want rfl _ hc)
            simp only [Act.eval, Array.getD_eq_getD_getElem?] at this
            cases hx : a.tmps[t]? with
            | none => simp [hx] at this; unfold undef at this; cases this
            | some u =>
              simp [hx] at this
              subst this
              simp
          · rename_i hc
            cases hb
            have := he t want rfl _ hc
            simp only [Act.eval, Array.getD_eq_getD_getElem?] at this
            cases hx : a.tmps[t]? with
            | none => simp
            | some u =>
              simp [hx] at this
              cases this
              simp [undef]
          · cases hb
        · cases h
    · cases h
theorem trO_op {P : Program} {N : Nat} {ops : Array Oper} {o : Oper} {ao : AO} (h : trO P N ops o = some ao) : trOp P o = some ao.op ∧ o.dst = ao.dst ∧ ∀ k, ao.dst = some k → k < N := by
  unfold trO at h
  split at h
  · cases h
  · rename_i op hop
    split at h
    · rename_i hd
      have hk : ∀ k, o.dst = some k → k < N := fun k hk => by rw [hk] at hd; simpa [dstB] using hd
      split at h
      · cases h; exact ⟨hop, rfl, hk⟩
      · split at h
        · cases h; exact ⟨hop, rfl, hk⟩
        · cases h
    · cases h

section
variable {P : Program} {N : Nat} {ops : Array Oper}
/-- In the text's order. -/
theorem rg_text : ∀ (os : List Oper) (aos : List AO) (k : Nat) (ρ : Env) (hl : List Ob) (fs : List Ft) (K : Env → List Ob → List Ft → Prop) (a : Act) (w : World) (g : Gh) (a0 : Act) (w0 : World) (g0 : Gh) (h0 : Nat → Ob) (n0 : Nat),
    (∀ j, j < os.length → ops[k + j]? = os[j]?) → listM (trO P N ops) os = some aos → Rg P N aos ρ hl fs K → a.tmps.size = N → a.defers = a0.defers → Rl w g (hx hl) → (∀ i, hl.length ≤ i → g.μ i = none) → EnvAll w g a ρ → Frl w0 g0 h0 n0 w g (hx hl) → n0 ≤ hl.length →
    ∀ (R : Exit → Act → World → Prop), (∀ a' w' ρ' hl' fs' g', K ρ' hl' fs' → a'.tmps.size = N → a'.defers = a0.defers → Rl w' g' (hx hl') → (∀ i, hl'.length ≤ i → g'.μ i = none) → EnvAll w' g' a' ρ' → Frl w0 g0 h0 n0 w' g' (hx hl') → n0 ≤ hl'.length → R .normal a' w') →
    wpOps P ops R ((List.range' k os.length)) a w
  | [], aos, k, ρ, hl, fs, K, a, w, g, a0, w0, g0, h0, n0, hops, htr, hrg, hN, hdf, hR, hμ, he, hF, hn0, R, hend => by
    simp [listM] at htr
    subst htr
    exact hend a w ρ hl fs g hrg hN hdf hR hμ he hF hn0
  | o :: os, aos, k, ρ, hl, fs, K, a, w, g, a0, w0, g0, h0, n0, hops, htr, hrg, hN, hdf, hR, hμ, he, hF, hn0, R, hend => by
    unfold listM at htr
    cases hto : trO P N ops o with
    | none => simp [hto] at htr
    | some ao => cases htl : listM (trO P N ops) os with
      | none => simp [hto, htl] at htr
      | some aos' =>
        simp [hto, htl] at htr
        subst htr
        have hk : ops[k]? = some o := by have := hops 0 (by simp); simpa using this
        have hnext : ∀ j, j < os.length → ops[k + 1 + j]? = os[j]? := fun j hj => by have := hops (j + 1) (by simp; omega); rw [show k + 1 + j = k + (j + 1) by omega, this]; simp
        obtain ⟨t1, t2, t3⟩ := trO_op hto
        have hd : ∀ q, o.dst = some q → q < a.tmps.size := fun q hq => by rw [hN]; exact t3 q (t2 ▸ hq)
        simp only [List.length_cons, List.range'_succ, wpOps, hk]
        rcases hrg with ⟨hg, hrg⟩ | ⟨hg, s, hs, hrg⟩
        · have hw := grd_ok hto (fun t want _ v hv => he t v hv) hg
          rw [hw]
          simp only [Bool.false_eq_true, if_false]
          refine rg_text os aos' (k + 1) _ hl _ K (a.put o.dst undef) w g a0 w0 g0 h0 n0 hnext htl hrg (by rw [put_size]; exact hN) (by rw [put_defers]; exact hdf) hR hμ ?_ hF hn0 R hend
          rw [← t2]
          exact he.put (fun _ _ => rfl) (Gm.refl g) .u hd
        · have hw := grd_ok hto (fun t want _ v hv => he t v hv) hg
          rw [hw]
          simp only [if_true]
          left
          have hr := hs.2 o t1 a w g (hx hl) hN (fun _ _ => rfl) (fun i hi => ⟨hμ i hi.1, by simp [hx, List.getD_eq_getElem?_getD, List.getElem?_eq_none hi.1]⟩) hR (he.on _)
          refine wp_widen (Oper.wp_mono (fun a' w' h => ?_) hr)
          obtain ⟨u, g', rfl, hv, hR', hgo⟩ := h
          have happ := appL_get hs.1
          refine rg_text os aos' (k + 1) _ (appL s hl) _ K (a.put o.dst u) w' g' a0 w0 g0 h0 n0 hnext htl hrg (by rw [put_size]; exact hN) (by rw [put_defers]; exact hdf) (by rw [happ]; exact hR') (fun i hi => ?_) ?_ ?_ (by rw [appL_length]; omega) R hend
          · rw [appL_length] at hi
            exact hgo.μn i (by unfold isNew; omega) (hμ i (by omega))
          · rw [← t2]
            exact he.put (hgo.same hR) hgo.gm hv hd
          · rw [happ]
            exact hF.step hgo hn0 (fun i h1 h2 => app_same h1 h2)
end
end Go.Proofs.Ytheaeddojcebjaa
