/-
  Rules for use: calls, places of lists, cases of a bit, what is left out of sight; lists of numbers and of bits.
-/
import Derived.Test.YtheaeddojcebjaaK22
set_option linter.unusedVariables false
set_option linter.unusedSimpArgs false
namespace Go.Proofs.Ytheaeddojcebjaa
open Go.RowKit

def setE {β : Type} (t : Nat) (v : V) : Env → (Env → β) → β
  | [], k => k []
  | (u, x) :: r, k => bif Nat.beq u t then k ((u, v) :: r) else setE t v r fun r => k ((u, x) :: r)
theorem setE_k {β : Type} (t : Nat) (v : V) : ∀ (ρ : Env) (k : Env → β), setE t v ρ k = k (setE t v ρ id)
  | [], k => rfl
  | (u, x) :: r, k => by
    unfold setE
    cases Nat.beq u t
    · simp only [cond_false]
      rw [setE_k t v r, setE_k t v r (fun r => id ((u, x) :: r))]
      rfl
    · rfl
theorem setE_get {t : Nat} {v : V} : ∀ {ρ : Env}, get ρ t = some v → ∀ u, get (setE t v ρ id) u = get ρ u
  | [], h, u => rfl
  | (q, x) :: r, h, u => by
    simp only [get] at h
    unfold setE
    cases hq : Nat.beq q t with
    | true => rw [hq] at h; simp only [cond_true] at h ⊢; cases h; rfl
    | false =>
      rw [hq] at h
      simp only [cond_false] at h ⊢
      rw [setE_k]
      simp only [id, get]
      cases Nat.beq q u
      · simp only [cond_false]; exact setE_get h u
      · rfl
section
variable {P : Program} {N n0 : Nat} {o : AO} {os : List AO} {ρ ρ' : Env} {hl hl' : List Ob} {fs : List Ft} {f' : Ft} {K : Env → List Ob → List Ft → Prop} {Q : Exit → Env → List Ob → Prop}
/-- Two tables that answer alike. -/
theorem ev_same {ρ ρ' : Env} (h : ∀ u, get ρ' u = get ρ u) (x : AX) : ev ρ' x = ev ρ x := by cases x <;> simp [ev, h]
theorem EnvAll.same {w : World} {g : Gh} {a : Act} {ρ ρ' : Env} (h : ∀ u, get ρ' u = get ρ u) (he : EnvAll w g a ρ) : EnvAll w g a ρ' := fun t v hv => he t v (by rw [← h]; exact hv)
theorem OpS.same {op : AOp} {s : Res} (h : ∀ u, get ρ' u = get ρ u) (ho : OpS P N op ρ' hl s) : OpS P N op ρ hl s :=
  ⟨ho.1, fun o' ht a w g hh hN hrd hnw hR he => ho.2 o' ht a w g hh hN hrd hnw hR fun t ht v hv => he t ht v (by rw [← h]; exact hv)⟩
theorem Tri.same {c : AC} (h : ∀ u, get ρ' u = get ρ u) (ht : Tri P N n0 c ρ' hl Q) : Tri P N n0 c ρ hl Q :=
  fun code hc w0 g0 h0 df a w ⟨h1, h2, h3, g, hR, hμ, he, hF⟩ => ht code hc w0 g0 h0 df a w ⟨h1, h2, h3, g, hR, hμ, he.same h, hF⟩
def getB (ρ : Env) (t : Nat) : Option Bool := match get ρ t with
  | some (.e (.c (.t (.bool b)))) => some b
  | _ => none
/-- The two cases of a bit. -/
theorem Tri.bit {c : AC} (t : Nat) {b : Bool} {ρt ρf : Env} (hv : getB ρ t = some b) (h1 : setE t (vB true) ρ some = some ρt) (h2 : setE t (vB false) ρ some = some ρf) (ht : b = true → Tri P N n0 c ρt hl Q) (hf : b = false → Tri P N n0 c ρf hl Q) : Tri P N n0 c ρ hl Q := by
  rw [setE_k] at h1 h2
  cases h1
  cases h2
  have hg : get ρ t = some (vB b) := by
    unfold getB at hv
    split at hv
    · rename_i b' h; cases hv; exact h
    · cases hv
  cases b with
  | true => exact Tri.same (setE_get hg) (ht rfl)
  | false => exact Tri.same (setE_get hg) (hf rfl)
theorem grdB_same (h : ∀ u, get ρ' u = get ρ u) (g : Option (Nat × Bool)) : grdB ρ' g = grdB ρ g := by unfold grdB; split <;> simp [h]
theorem Rg.same : ∀ {os : List AO} {ρ ρ' : Env} {hl : List Ob} {fs : List Ft}, (∀ u, get ρ' u = get ρ u) → (∀ ρ ρ' hl fs, (∀ u, get ρ' u = get ρ u) → K ρ' hl fs → K ρ hl fs) → Rg P N os ρ' hl fs K → Rg P N os ρ hl fs K
  | [], ρ, ρ', hl, fs, h, hK, hr => hK _ _ _ _ h hr
  | o :: os, ρ, ρ', hl, fs, h, hK, hr => by
    have hpt : ∀ v u, get (pt o.dst v ρ') u = get (pt o.dst v ρ) u := fun v u => by rw [get_pt, get_pt, h]
    rcases hr with ⟨h1, h2⟩ | ⟨h1, s, h2, h3⟩
    · exact .inl ⟨by rw [← grdB_same h]; exact h1, Rg.same (hpt _) hK h2⟩
    · exact .inr ⟨by rw [← grdB_same h]; exact h1, s, h2.same h, Rg.same (hpt _) hK h3⟩
/-- What comes behind asks the table only by its answers. -/
theorem Rg.bit (t : Nat) {b : Bool} {ρt ρf : Env} {c : AC} {up : Option (List (List Nat))} (hv : getB ρ t = some b) (h1 : setE t (vB true) ρ some = some ρt) (h2 : setE t (vB false) ρ some = some ρf)
    (ht : b = true → Rg P N os ρt hl fs (fun ρ' hl' fs => ordU up fs = true ∧ Tri P N n0 c ρ' hl' Q)) (hf : b = false → Rg P N os ρf hl fs (fun ρ' hl' fs => ordU up fs = true ∧ Tri P N n0 c ρ' hl' Q)) : Rg P N os ρ hl fs (fun ρ' hl' fs => ordU up fs = true ∧ Tri P N n0 c ρ' hl' Q) := by
  rw [setE_k] at h1 h2
  cases h1
  cases h2
  have hg : get ρ t = some (vB b) := by
    unfold getB at hv
    split at hv
    · rename_i b' h; cases hv; exact h
    · cases hv
  have hK : ∀ ρ ρ' hl (fs : List Ft), (∀ u, get ρ' u = get ρ u) → (ordU up fs = true ∧ Tri P N n0 c ρ' hl Q) → (ordU up fs = true ∧ Tri P N n0 c ρ hl Q) := fun ρ ρ' hl fs h ⟨k1, k2⟩ => ⟨k1, k2.same h⟩
  cases b with
  | true => exact Rg.same (setE_get hg) hK (ht rfl)
  | false => exact Rg.same (setE_get hg) hK (hf rfl)
theorem Rg.by (s : Res) (hg : o.grd = none) (ho : OpS P N o.op ρ hl s) (h1 : fPt o.dst s.v ρ some = some ρ') (h2 : fAp s hl some = some hl') (h3 : fFt s hl.length some = some f') (hk : Rg P N os ρ' hl' (fs ++ [f']) K) : Rg P N (o :: os) ρ hl fs K := by
  rw [fPt_eq] at h1
  rw [fAp_eq] at h2
  rw [fFt_eq] at h3
  cases h1; cases h2; cases h3
  exact .inr ⟨by rw [hg]; rfl, s, ho, hk⟩
/-- A call. -/
theorem Rg.call {d : Option Nat} {f : FuncId} {axs : List AX} {avs vs : List V} (σ τ : List Nat) {hs hs' : List Ob} {r : V} (hfn : FnOk P f vs hs r hs') (hev : evs ρ axs = some avs) (hbv : listM (V.bk σ τ hl) avs = some vs) {pv : Prop} (hvw : vwVs σ τ hl avs True some = some pv) (hbo : listM (Ob.bk σ hl) (σ.map (hx hl)) = some hs)
    (hc : ((decide (σ ++ τ).Nodup && (σ ++ τ).all (fun i => decide (i < hl.length))) && (hs'.all Ob.ok && r.ok)) = true) (h1 : fPt d (callRes σ τ hl.length r hs').v ρ some = some ρ') (h2 : fAp (callRes σ τ hl.length r hs') hl some = some hl') (h3 : fFt (callRes σ τ hl.length r hs') hl.length some = some f')
    (hpv : pv) (hk : Rg P N os ρ' hl' (fs ++ [f']) K) : Rg P N (⟨d, .call f axs, none⟩ :: os) ρ hl fs K :=
  Rg.by _ rfl (OpS.call σ τ hev hbv hvw hpv hbo hc hfn) h1 h2 h3 hk
/-- A call whose result leads nowhere: what is lent stays. -/
theorem Rg.lend {d : Option Nat} {f : FuncId} {axs : List AX} {avs vs : List V} (τ : List Nat) {r : V} (hfn : FnOk P f vs [] r []) (hev : evs ρ axs = some avs) (hbv : listM (V.bk [] τ hl) avs = some vs) {pv : Prop} (hvw : vwVs [] τ hl avs True some = some pv) (hp : r.plain = true)
    (h1 : fPt d r ρ some = some ρ') (h3 : fFt { v := r, rd := τ } hl.length some = some f') (hpv : pv) (hk : Rg P N os ρ' hl (fs ++ [f']) K) : Rg P N (⟨d, .call f axs, none⟩ :: os) ρ hl fs K :=
  Rg.by _ rfl (OpS.lend τ hev hbv hvw hpv hp hfn) h1 rfl h3 hk
/-- A place of a list. -/
theorem Rg.at (r : List D) {d : Option Nat} {op : AOp} {p : Prop} {s : Res} (ha : aopi op ρ hl r = some (p, s)) (h1 : fPt d s.v ρ some = some ρ') (h2 : fAp s hl some = some hl') (h3 : fFt s hl.length some = some f') (hp : p) (hk : Rg P N os ρ' hl' (fs ++ [f']) K) : Rg P N (⟨d, op, none⟩ :: os) ρ hl fs K :=
  Rg.by _ rfl (OpS.opi r ha hp) h1 h2 h3 hk
theorem Rg.text (r : List Int) {d : Option Nat} {ax : AX} {p : Prop} {s : Res} (ha : aopb (.bstr ax) ρ hl r = some (p, s)) (h1 : fPt d s.v ρ some = some ρ') (h2 : fAp s hl some = some hl') (h3 : fFt s hl.length some = some f') (hp : p) (hk : Rg P N os ρ' hl' (fs ++ [f']) K) : Rg P N (⟨d, .bstr ax, none⟩ :: os) ρ hl fs K :=
  Rg.by _ rfl (OpS.opb r ha hp) h1 h2 h3 hk
/-- Objects and temporaries out of sight; lists that do not change any more as data. -/
def vwEnv {β : Type} (σ τ : List Nat) (hl : List Ob) (ρ : Env) : List Nat → Prop → (Prop → β) → β
  | [], acc, k => k acc
  | t :: ts, acc, k => vwEnv σ τ hl ρ ts acc fun q => match get ρ t with
    | some v => v.vw σ τ hl q k
    | none => k q
theorem vwEnv_k {β : Type} (σ τ : List Nat) (hl : List Ob) (ρ : Env) : ∀ (ts : List Nat) (q : Prop) (k : Prop → β), vwEnv σ τ hl ρ ts q k = k (vwEnv σ τ hl ρ ts q id)
  | [], q, k => rfl
  | t :: ts, q, k => by
    unfold vwEnv
    cases hg : get ρ t with
    | none => simp only []; rw [vwEnv_k σ τ hl ρ ts, vwEnv_k σ τ hl ρ ts q (fun q => id q)]
    | some v => simp only []; rw [vwEnv_k σ τ hl ρ ts, vwEnv_k σ τ hl ρ ts q (fun q => v.vw σ τ hl q id), vwV_k]
theorem vwEnv_ok (σ τ : List Nat) (hl : List Ob) (ρ : Env) : ∀ (ts : List Nat) (q : Prop), vwEnv σ τ hl ρ ts q id → (∀ t ∈ ts, ∀ v, get ρ t = some v → v.Vw σ τ hl) ∧ q
  | [], q, h => ⟨fun _ ht => (nomatch ht), h⟩
  | t :: ts, q, h => by
    unfold vwEnv at h
    rw [vwEnv_k] at h
    have : (∀ v, get ρ t = some v → v.Vw σ τ hl) ∧ vwEnv σ τ hl ρ ts q id := by
      split at h
      · rename_i v hv
        obtain ⟨h1, h2⟩ := vwV_ok v _ h
        exact ⟨fun v' hv' => by rw [hv] at hv'; cases hv'; exact h1, h2⟩
      · rename_i hv
        exact ⟨fun v' hv' => by (rw [hv] at hv'; cases hv'), h⟩
    obtain ⟨h3, h4⟩ := vwEnv_ok σ τ hl ρ ts q this.2
    exact ⟨fun x hx v hv => (List.mem_cons.1 hx).elim (fun e => this.1 v (e ▸ hv)) (fun hx => h3 x hx v hv), h4⟩
def fEnvF {β : Type} : Env → (Env → β) → β
  | [], k => k []
  | (t, v) :: r, k => fV v fun v => fEnvF r fun r => k ((t, v) :: r)
theorem fEnvF_eq {β : Type} : ∀ (ρ : Env) (k : Env → β), fEnvF ρ k = k ρ
  | [], k => rfl
  | (t, v) :: r, k => by unfold fEnvF; rw [fV_eq, fEnvF_eq r]
/-- All that is left out, at once. -/
def subR (σ τ live : List Nat) (n0 : Nat) (ρ : Env) (hl : List Ob) : Option (Prop × Env × List Ob) :=
  match listM (Ob.bk σ hl) (σ.map (hx hl)), bkEnv σ τ hl ρ live with
  | some hs, some ρ' => match ndB (σ ++ τ) && eqLB (σ.take n0) (List.range n0) with
    | true => vwEnv σ τ hl ρ live True fun p => fEnvF ρ' fun ρ' => fOs hs fun hs => some (p, ρ', hs)
    | false => none
  | _, _ => none
theorem Tri.let {c : AC} (σ τ live : List Nat) {p : Prop} {hs : List Ob} (h : subR σ τ live n0 ρ hl = some (p, ρ', hs)) (hp : p) (hk : Tri P N n0 c ρ' hs Q) : Tri P N n0 c ρ hl Q := by
  unfold subR at h
  split at h
  · rename_i hs0 ρ0 h2 h3
    split at h
    · rename_i h4
      rw [vwEnv_k] at h
      simp only [fEnvF_eq, fOs_eq] at h
      simp only [Bool.and_eq_true] at h4
      cases h
      intro code hc w0 g0 h0 df a w ha
      exact hk code hc w0 g0 h0 df a w (ha.sub h2 (vwEnv_ok _ _ _ _ _ _ hp).1 h3 (ndB_ok h4.1) (eqLB_ok h4.2))
    · cases h
  · cases h
/-- A loop. -/
theorem Tri.lp {x : AC} (J : Nat → Env → List Ob → Prop) (n : Nat) (h0 : J n ρ hl) (round : ∀ n ρ hl, J n ρ hl → Tri P N n0 x ρ hl (thenQ (fun ρ' hl' => ∃ m, m < n ∧ J m ρ' hl') Q)) : Tri P N n0 (.loop x) ρ hl Q := Tri.loop J h0 round
end
/-- Bytes, words, numbers, bits as rows. -/
def rI (k : IntKind) (l : List Int) : List (List D) := l.map fun x => [.int k x]
def rF (l : List Bool) : List (List D) := l.map fun b => [.bool b]
abbrev lI (k : IntKind) (l : List Int) : D := .ls 1 l.length (rI k l)
abbrev lF (l : List Bool) : D := .ls 1 l.length (rF l)
abbrev vBy (l : List Int) : V := .e (.c (.t (.ls 1 l.length (rI .u8 l))))
abbrev vWd (l : List Int) : V := .e (.c (.t (.ls 1 l.length (rI .u16 l))))
abbrev vFs (l : List Bool) : V := .e (.c (.t (.ls 1 l.length (rF l))))
section
variable {k : IntKind} {l m : List Int} {n i : Nat} {x : Int}
@[simp] theorem rI_len : (rI k l).length = l.length := by simp [rI]
@[simp] theorem rF_len {l : List Bool} : (rF l).length = l.length := by simp [rF]
theorem rI_take : (rI k l).take n = rI k (l.take n) := by simp [rI, List.map_take]
theorem rI_drop : (rI k l).drop n = rI k (l.drop n) := by simp [rI, List.map_drop]
theorem rI_app : rI k l ++ rI k m = rI k (l ++ m) := by simp [rI]
theorem rI_one : [[.int k x]] = rI k [x] := rfl
theorem rI_rep : List.replicate n [.int k x] = rI k (List.replicate n x) := by simp [rI]
theorem rI_get (h : i < l.length) : (rI k l)[i]? = some [.int k (l.getD i 0)] := by simp [rI, h, List.getD_eq_getElem?_getD]
theorem rI_set : (rI k l).set i [.int k x] = rI k (l.set i x) := by simp [rI, List.map_set]
theorem rI_mod : (rI k l).modify i (fun r => putAt r 0 [.int k x]) = rI k (l.set i x) := by
  unfold rI
  induction l generalizing i with
  | nil => cases i <;> rfl
  | cons y l ih => cases i with
    | zero => rfl
    | succ i => simpa using ih
theorem rF_take {l : List Bool} : (rF l).take n = rF (l.take n) := by simp [rF, List.map_take]
theorem rF_drop {l : List Bool} : (rF l).drop n = rF (l.drop n) := by simp [rF, List.map_drop]
theorem rF_app {l m : List Bool} : rF l ++ rF m = rF (l ++ m) := by simp [rF]
theorem rF_rep {b : Bool} : List.replicate n [.bool b] = rF (List.replicate n b) := by simp [rF]
theorem rF_get {l : List Bool} (h : i < l.length) : (rF l)[i]? = some [.bool (l.getD i false)] := by simp [rF, h, List.getD_eq_getElem?_getD]
theorem rF_mod {l : List Bool} {b : Bool} : (rF l).modify i (fun r => putAt r 0 [.bool b]) = rF (l.set i b) := by
  unfold rF
  induction l generalizing i with
  | nil => cases i <;> rfl
  | cons y l ih => cases i with
    | zero => rfl
    | succ i => simpa using ih
theorem V.le.ls {sz n m : Nat} {r r' : List (List D)} (h1 : n = m) (h2 : r.take n = r') : V.le (vL sz n r) (vL sz m r') := .e (.c (.t (.cut h1 h2)))
theorem V.le.nil {sz : Nat} : V.le (vD .nil) (vL sz 0 []) := .e (.c (.t (.nil sz)))
end
end Go.Proofs.Ytheaeddojcebjaa
