/-
  Whole pieces of code at once, all roads: what is asked is one sentence; the answers are a tree.
-/
import Derived.Test.YtheaeddojcebjaaK24
set_option linter.unusedVariables false
set_option linter.unusedSimpArgs false
namespace Go.Proofs.Ytheaeddojcebjaa
open Go.RowKit

/-- What is given is what was to be given: a cell, a list of cells, values. -/
def leC : C → C → Prop
  | .t (.int k a), .t (.int k' b) => k = k' ∧ a = b
  | .t (.bool a), .t (.bool b) => a = true ↔ b = true
  | .t .nil, .t (.ls _ n r) => n = 0 ∧ r = []
  | .t (.ls sz n r), .t (.ls sz' m r') => sz = sz' ∧ n = m ∧ (r = r' ∨ r.take n = r')
  | c, c' => c = c'
def leL : List C → List C → Prop
  | [], [] => True
  | c :: l, c' :: l' => leC c c' ∧ leL l l'
  | _, _ => False
def leE : E → E → Prop
  | .c a, .c b => leC a b
  | .agg l, .agg l' => leL l l'
  | _, _ => False
def leEs : List E → List E → Prop
  | [], [] => True
  | c :: l, c' :: l' => leE c c' ∧ leEs l l'
  | _, _ => False
def leP : V → V → Prop
  | .e a, .e b => leE a b
  | .tup a, .tup b => leEs a b
  | a, b => a = b
theorem leC_ok {a b : C} (h : leC a b) : C.le a b := by
  unfold leC at h
  split at h
  · obtain ⟨rfl, rfl⟩ := h; exact .refl _
  · rw [Bool.eq_iff_iff.2 h]; exact .refl _
  · obtain ⟨rfl, rfl⟩ := h; exact .t (.nil _)
  · obtain ⟨rfl, rfl, rfl | h⟩ := h
    · exact .refl _
    · exact .t (.cut rfl h)
  · rw [h]; exact .refl _
theorem leL_ok : ∀ {l m : List C}, leL l m → LeCs l m
  | [], [], _ => .nil
  | _ :: _, _ :: _, h => .cons (leC_ok h.1) (leL_ok h.2)
  | [], _ :: _, h => h.elim
  | _ :: _, [], h => h.elim
theorem leE_ok : ∀ {a b : E}, leE a b → E.le a b
  | .c _, .c _, h => .c (leC_ok h)
  | .agg _, .agg _, h => .agg (leL_ok h)
  | .c _, .agg _, h => h.elim
  | .agg _, .c _, h => h.elim
theorem leEs_ok : ∀ {l m : List E}, leEs l m → LeEs l m
  | [], [], _ => .nil
  | _ :: _, _ :: _, h => .cons (leE_ok h.1) (leEs_ok h.2)
  | [], _ :: _, h => h.elim
  | _ :: _, [], h => h.elim
theorem leP_ok : ∀ {a b : V}, leP a b → V.le a b
  | .e _, .e _, h => .e (leE_ok h)
  | .tup _, .tup _, h => .tup (leEs_ok h)
  | .e _, .tup _, h => by cases h
  | .e _, .u, h => by cases h
  | .tup _, .e _, h => by cases h
  | .tup _, .u, h => by cases h
  | .u, .e _, h => by cases h
  | .u, .tup _, h => by cases h
  | .u, .u, _ => .refl _
@[simp] theorem leC_refl (c : C) : leC c c := by unfold leC; split <;> simp_all
@[simp] theorem leL_refl : ∀ (l : List C), leL l l
  | [] => trivial
  | c :: l => ⟨leC_refl c, leL_refl l⟩
@[simp] theorem leE_refl : ∀ (e : E), leE e e
  | .c c => leC_refl c
  | .agg l => leL_refl l
@[simp] theorem leEs_refl : ∀ (l : List E), leEs l l
  | [] => trivial
  | c :: l => ⟨leE_refl c, leEs_refl l⟩
@[simp] theorem leP_refl : ∀ (v : V), leP v v
  | .e e => leE_refl e
  | .tup l => leEs_refl l
  | .u => rfl
@[simp] theorem rI_nil (k : IntKind) : rI k [] = [] := rfl
@[simp] theorem rF_nil : rF [] = [] := rfl
def leVs : List V → List V → Prop
  | [], [] => True
  | c :: l, c' :: l' => leP c c' ∧ leVs l l'
  | _, _ => False
theorem leVs_ok : ∀ {l m : List V}, leVs l m → LeVs l m
  | [], [], _ => .nil
  | _ :: _, _ :: _, h => .cons (leP_ok h.1) (leVs_ok h.2)
  | [], _ :: _, h => h.elim
  | _ :: _, [], h => h.elim
inductive AT (P : Program) where
  | nil
  | a (x : Ans) (r : AT P)
  | br (t : Nat) (x y : AT P)
  | f (τ : List Nat) {f : FuncId} {vs : List V} {r : V} (h : FnOk P f vs [] r []) (k : AT P)
  | o (σ τ : List Nat) {f : FuncId} {vs : List V} {hs : List Ob} {r : V} {hs' : List Ob} (h : FnOk P f vs hs r hs') (k : AT P)
def eqOs (a b : List Ob) : Prop := a = b
def andO (p : Prop) : Option Prop → Option Prop
  | some q => some (p ∧ q)
  | none => none
def orO (v : Bool) : Option Prop → Option Prop → Option Prop
  | some p, some q => some ((v = true → p) ∧ (v = false → q))
  | _, _ => none
def popT {P : Program} (t : Nat) : AT P → Option (AT P × AT P)
  | .br u x y => match Nat.beq u t with
    | true => some (x, y)
    | false => none
  | _ => none
def popTX {P : Program} : AX → AT P → Option (AT P × AT P)
  | .tmp t, l => popT t l
  | .k _, _ => none
def popBT {P : Program} (t : Nat) : AT P → Option (Bool × AT P)
  | .a (.b u c) r => match Nat.beq u t with
    | true => some (c, r)
    | false => none
  | _ => none
def popBTX {P : Program} : AX → AT P → Option (Bool × AT P)
  | .tmp t, l => popBT t l
  | .k _, _ => none
def askT (op : AOp) (ρ : Env) (hl : List Ob) (p : Prop) (o : Option Prop) : Option Prop := match triv op with
  | true => o
  | false => match autoB op ρ hl with
    | true => o
    | false => andO p o
def stepTD {P : Program} (d : Option Nat) (op : AOp) (ρ : Env) (hl : List Ob) (fs : List Ft) (ans : AT P) (K : Env → List Ob → List Ft → AT P → Option Prop) : Option Prop :=
  match aopx op ρ hl with
  | some (p, s) => match idsB hl s with
    | true => askT op ρ hl p (putA d s ρ hl fs fun ρ hl fs => K ρ hl fs ans)
    | false => none
  | none => match ans with
    | .a (.at r) ans => match aopi op ρ hl r with
      | some (p, s) => andO p (putA d s ρ hl fs fun ρ hl fs => K ρ hl fs ans)
      | none => none
    | _ => none
def stepT (P : Program) (d : Option Nat) (op : AOp) (ρ : Env) (hl : List Ob) (fs : List Ft) (ans : AT P) (K : Env → List Ob → List Ft → AT P → Option Prop) : Option Prop :=
  match op with
  | .call f axs => match evs ρ axs with
    | some avs => match ans with
      | .a (.lend τ r) ans => match listM (V.bk [] τ hl) avs with
        | some vs => match r.plain with
          | true => vwVs [] τ hl avs True fun pv => andO pv (andO (FnOk P f vs [] r []) (putA d { v := r, rd := τ } ρ hl fs fun ρ hl fs => K ρ hl fs ans))
          | false => none
        | none => none
      | .a (.call σ τ r hs') ans => match listM (V.bk σ τ hl) avs, listM (Ob.bk σ hl) (σ.map (hx hl)) with
        | some vs, some hs => match (decide (σ ++ τ).Nodup && (σ ++ τ).all (fun i => decide (i < hl.length))) && (hs'.all Ob.ok && r.ok) with
          | true => vwVs σ τ hl avs True fun pv => andO pv (andO (FnOk P f vs hs r hs') (putA d (callRes σ τ hl.length r hs') ρ hl fs fun ρ hl fs => K ρ hl fs ans))
          | false => none
        | _, _ => none
      | @AT.f _ τ f' vs' r h ans => match Nat.beq f f', listM (V.bk [] τ hl) avs with
        | true, some vs => match r.plain with
          | true => vwVs [] τ hl avs True fun pv => andO pv (andO (leVs vs vs') (putA d { v := r, rd := τ } ρ hl fs fun ρ hl fs => K ρ hl fs ans))
          | false => match r.ok && (decide ([] ++ τ).Nodup && ([] ++ τ).all (fun i => decide (i < hl.length))) with
            | true => vwVs [] τ hl avs True fun pv => andO pv (andO (leVs vs vs') (putA d (callRes [] τ hl.length r []) ρ hl fs fun ρ hl fs => K ρ hl fs ans))
            | false => none
        | _, _ => none
      | @AT.o _ σ τ f' vs' hs0 r hs' h ans => match Nat.beq f f', listM (V.bk σ τ hl) avs, listM (Ob.bk σ hl) (σ.map (hx hl)) with
        | true, some vs, some hs => match (decide (σ ++ τ).Nodup && (σ ++ τ).all (fun i => decide (i < hl.length))) && (hs'.all Ob.ok && r.ok) with
          | true => vwVs σ τ hl avs True fun pv => andO pv (andO (leVs vs vs') (andO (eqOs hs hs0) (putA d (callRes σ τ hl.length r hs') ρ hl fs fun ρ hl fs => K ρ hl fs ans)))
          | false => none
        | _, _, _ => none
      | _ => none
    | none => none
  | .callv x axs => match evs ρ axs, ev ρ x with
    | some avs, some (.e (.c (.fn f cs))) => match ans with
      | .a (.call σ τ r hs') ans => match listM (V.bk σ τ hl) (avs ++ cs.map vC), listM (Ob.bk σ hl) (σ.map (hx hl)) with
        | some vs, some hs => match (decide (σ ++ τ).Nodup && (σ ++ τ).all (fun i => decide (i < hl.length))) && (hs'.all Ob.ok && r.ok) with
          | true => vwVs σ τ hl (avs ++ cs.map vC) True fun pv => andO pv (andO (FnOk P f vs hs r hs') (putA d (callRes σ τ hl.length r hs') ρ hl fs fun ρ hl fs => K ρ hl fs ans))
          | false => none
        | _, _ => none
      | _ => none
    | _, _ => none
  | .bstr ax => match ans with
    | .a (.tx r) ans => match aopb (.bstr ax) ρ hl r with
      | some (p, s) => andO p (putA d s ρ hl fs fun ρ hl fs => K ρ hl fs ans)
      | none => none
    | _ => none
  | op => stepTD d op ρ hl fs ans K
def runTA (P : Program) : List AO → Env → List Ob → List Ft → AT P → (Env → List Ob → List Ft → AT P → Option Prop) → Option Prop
  | [], ρ, hl, fs, ans, K => K ρ hl fs ans
  | o :: os, ρ, hl, fs, ans, K => match o.grd with
    | none => stepT P o.dst o.op ρ hl fs ans fun ρ hl fs ans => runTA P os ρ hl fs ans K
    | some (t, want) => match get ρ t with
      | some .u => putA o.dst noRes ρ hl fs fun ρ hl fs => runTA P os ρ hl fs ans K
      | some (.e (.c (.t (.bool b)))) => match popT t ans with
        | some (x, y) => match want with
          | true => orO b (setE t (vB true) ρ fun ρ => stepT P o.dst o.op ρ hl fs x fun ρ hl fs ans => runTA P os ρ hl fs ans K) (setE t (vB false) ρ fun ρ => putA o.dst noRes ρ hl fs fun ρ hl fs => runTA P os ρ hl fs y K)
          | false => orO b (setE t (vB true) ρ fun ρ => putA o.dst noRes ρ hl fs fun ρ hl fs => runTA P os ρ hl fs x K) (setE t (vB false) ρ fun ρ => stepT P o.dst o.op ρ hl fs y fun ρ hl fs ans => runTA P os ρ hl fs ans K)
        | none => match popBT t ans with
          | some (c, r) => andO (b = c) (setE t (vB c) ρ fun ρ => match c == want with
            | true => stepT P o.dst o.op ρ hl fs r fun ρ hl fs ans => runTA P os ρ hl fs ans K
            | false => putA o.dst noRes ρ hl fs fun ρ hl fs => runTA P os ρ hl fs r K)
          | none => match b == want with
            | true => stepT P o.dst o.op ρ hl fs ans fun ρ hl fs ans => runTA P os ρ hl fs ans K
            | false => putA o.dst noRes ρ hl fs fun ρ hl fs => runTA P os ρ hl fs ans K
      | _ => none
def runT (P : Program) : AC → Env → List Ob → AT P → (Exit → Env → List Ob → AT P → Option Prop) → Option Prop
  | .skip, ρ, hl, ans, K => K .normal ρ hl ans
  | .region l up, ρ, hl, ans, K => runTA P l ρ hl [] ans fun ρ hl fs ans => match ordU up fs with
      | true => K .normal ρ hl ans
      | false => none
  | .seq a b, ρ, hl, ans, K => runT P a ρ hl ans fun ex ρ hl ans => match ex with
    | .normal => runT P b ρ hl ans K
    | ex => K ex ρ hl ans
  | .cond c a b, ρ, hl, ans, K => match ev ρ c with
    | some (.e (.c (.t (.bool v)))) => match popTX c ans with
      | some (x, y) => orO v (setX c (vB true) ρ fun ρ => runT P a ρ hl x K) (setX c (vB false) ρ fun ρ => runT P b ρ hl y K)
      | none => match popBTX c ans with
        | some (w, r) => andO (v = w) (setX c (vB w) ρ fun ρ => match w with
          | true => runT P a ρ hl r K
          | false => runT P b ρ hl r K)
        | none => match v with
          | true => runT P a ρ hl ans K
          | false => runT P b ρ hl ans K
    | _ => none
  | .block i a, ρ, hl, ans, K => runT P a ρ hl ans fun ex ρ hl ans => match ex with
    | .exit j => match Nat.beq j i with
      | true => K .normal ρ hl ans
      | false => K (.exit j) ρ hl ans
    | ex => K ex ρ hl ans
  | .loop _, _, _, _, _ => none
  | .exit i, ρ, hl, ans, K => K (.exit i) ρ hl ans
  | .ret, ρ, hl, ans, K => K .ret ρ hl ans
theorem andO_ok {p q : Prop} {o : Option Prop} (h : andO p o = some q) (hq : q) : p ∧ ∃ r, o = some r ∧ r := by
  cases o with
  | none => cases h
  | some r => cases h; exact ⟨hq.1, r, rfl, hq.2⟩
theorem orO_ok {v : Bool} {q : Prop} {o o' : Option Prop} (h : orO v o o' = some q) (hq : q) : (v = true → ∃ r, o = some r ∧ r) ∧ (v = false → ∃ r, o' = some r ∧ r) := by
  cases o with
  | none => cases h
  | some r => cases o' with
    | none => cases h
    | some r' => cases h; exact ⟨fun e => ⟨r, rfl, hq.1 e⟩, fun e => ⟨r', rfl, hq.2 e⟩⟩
theorem askT_ok {op : AOp} {ρ : Env} {hl : List Ob} {p q : Prop} {s : Res} {o : Option Prop} (ha : aopx op ρ hl = some (p, s)) (h : askT op ρ hl p o = some q) (hq : q) : p ∧ ∃ r, o = some r ∧ r := by
  unfold askT at h
  split at h
  · rename_i ht; exact ⟨triv_ok ha ht, q, h, hq⟩
  · split at h
    · rename_i ht; exact ⟨auto_ok ha ht, q, h, hq⟩
    · exact andO_ok h hq
section
variable {P : Program} {N : Nat} {d : Option Nat} {op : AOp} {ρ : Env} {hl : List Ob} {fs : List Ft} {ans : AT P} {K : Env → List Ob → List Ft → AT P → Option Prop} {q : Prop}
theorem stepTD_ok (h : stepTD d op ρ hl fs ans K = some q) (hq : q) : ∃ s ans' p, OpS P N op ρ hl s ∧ K (pt d s.v ρ) (appL s hl) (fs ++ [s.ft hl.length]) ans' = some p ∧ p := by
  unfold stepTD at h
  split at h
  · rename_i p s ha
    split at h
    · rename_i hi
      rw [putA_eq] at h
      obtain ⟨hp, r, h1, h2⟩ := askT_ok ha h hq
      obtain ⟨p', q1, q2⟩ := aopx_ok ha hp
      exact ⟨s, ans, r, ⟨idsB_ok hi, fun o' ho => aop_ok ho q1 q2⟩, h1, h2⟩
    · cases h
  · split at h
    · split at h
      · rename_i p s ha
        rw [putA_eq] at h
        obtain ⟨hp, r, h1, h2⟩ := andO_ok h hq
        exact ⟨s, _, r, OpS.opi _ ha hp, h1, h2⟩
      · cases h
    · cases h
theorem stepT_ok (h : stepT P d op ρ hl fs ans K = some q) (hq : q) : ∃ s ans' p, OpS P N op ρ hl s ∧ K (pt d s.v ρ) (appL s hl) (fs ++ [s.ft hl.length]) ans' = some p ∧ p := by
  cases op with
  | call f axs =>
    simp only [stepT] at h
    split at h
    · rename_i avs hev
      split at h
      · rename_i τ r0 ans'
        split at h
        · rename_i vs hbv
          split at h
          · rename_i hp
            rw [vwVs_k, putA_eq] at h
            obtain ⟨h1, r, h2, h3⟩ := andO_ok h hq
            obtain ⟨h4, r', h5, h6⟩ := andO_ok h2 h3
            exact ⟨_, ans', r', OpS.lend τ hev hbv (by rw [vwVs_k]) h1 hp h4, h5, h6⟩
          · cases h
        · cases h
      · rename_i σ τ r0 hs' ans'
        split at h
        · rename_i vs hs hbv hbo
          split at h
          · rename_i hc
            rw [vwVs_k, putA_eq] at h
            obtain ⟨h1, r, h2, h3⟩ := andO_ok h hq
            obtain ⟨h4, r', h5, h6⟩ := andO_ok h2 h3
            exact ⟨_, ans', r', OpS.call σ τ hev hbv (by rw [vwVs_k]) h1 hbo hc h4, h5, h6⟩
          · cases h
        · cases h
      · rename_i τ f' vs' r0 hfn ans'
        split at h
        · rename_i vs hff hbv
          have hff : f = f' := Nat.eq_of_beq_eq_true hff
          subst hff
          split at h
          · rename_i hp
            rw [vwVs_k, putA_eq] at h
            obtain ⟨h1, r, h2, h3⟩ := andO_ok h hq
            obtain ⟨h4, r', h5, h6⟩ := andO_ok h2 h3
            exact ⟨_, ans', r', OpS.lend τ hev hbv (by rw [vwVs_k]) h1 hp (hfn.wk (leVs_ok h4) (.refl _)), h5, h6⟩
          · split at h
            · rename_i hc
              rw [vwVs_k, putA_eq] at h
              obtain ⟨h1, r, h2, h3⟩ := andO_ok h hq
              obtain ⟨h4, r', h5, h6⟩ := andO_ok h2 h3
              simp only [Bool.and_eq_true] at hc
              exact ⟨_, ans', r', OpS.call [] τ hev hbv (by rw [vwVs_k]) h1 rfl (by simp only [Bool.and_eq_true]; exact ⟨hc.2, rfl, hc.1⟩) (hfn.wk (leVs_ok h4) (.refl _)), h5, h6⟩
            · cases h
        · cases h
      · rename_i σ τ f' vs' hs0 r0 hs' hfn ans'
        split at h
        · rename_i vs hs hff hbv hbo
          have hff : f = f' := Nat.eq_of_beq_eq_true hff
          subst hff
          split at h
          · rename_i hc
            rw [vwVs_k, putA_eq] at h
            obtain ⟨h1, r, h2, h3⟩ := andO_ok h hq
            obtain ⟨h4, r', h5, h6⟩ := andO_ok h2 h3
            obtain ⟨h7, r'', h8, h9⟩ := andO_ok h5 h6
            have h7 : hs = hs0 := h7
            subst h7
            exact ⟨_, ans', r'', OpS.call σ τ hev hbv (by rw [vwVs_k]) h1 hbo hc (hfn.wk (leVs_ok h4) (.refl _)), h8, h9⟩
          · cases h
        · cases h
      · cases h
    · cases h
  | callv x axs =>
    simp only [stepT] at h
    split at h
    · rename_i avs f cs hev hf
      split at h
      · rename_i σ τ r0 hs' ans'
        split at h
        · rename_i vs hs hbv hbo
          split at h
          · rename_i hc
            rw [vwVs_k, putA_eq] at h
            obtain ⟨h1, r, h2, h3⟩ := andO_ok h hq
            obtain ⟨h4, r', h5, h6⟩ := andO_ok h2 h3
            exact ⟨_, ans', r', OpS.callv σ τ hf hev hbv (by rw [vwVs_k]) h1 hbo hc h4, h5, h6⟩
          · cases h
        · cases h
      · cases h
    · cases h
  | bstr ax =>
    simp only [stepT] at h
    split at h
    · split at h
      · rename_i p s ha
        rw [putA_eq] at h
        obtain ⟨h1, r, h2, h3⟩ := andO_ok h hq
        exact ⟨s, _, r, OpS.opb _ ha h1, h2, h3⟩
      · cases h
    · cases h
  | _ => exact stepTD_ok h hq
end
section
variable {P : Program} {N : Nat}
theorem runTA_ok {Kp : Env → List Ob → List Ft → Prop} {K : Env → List Ob → List Ft → AT P → Option Prop} (hK : ∀ ρ hl fs ans p, K ρ hl fs ans = some p → p → Kp ρ hl fs) : ∀ {os : List AO} {ρ : Env} {hl : List Ob} {fs : List Ft} {ans : AT P} {q : Prop}, runTA P os ρ hl fs ans K = some q → q → Rg P N os ρ hl fs Kp
  | [], ρ, hl, fs, ans, q, h, hq => hK _ _ _ _ _ h hq
  | o :: os, ρ, hl, fs, ans, q, h, hq => by
    have step : ∀ {ans : AT P} {q : Prop}, grdB ρ o.grd = some true → (stepT P o.dst o.op ρ hl fs ans fun ρ hl fs ans => runTA P os ρ hl fs ans K) = some q → q → Rg P N (o :: os) ρ hl fs Kp := by
      intro ans q hg h hq
      obtain ⟨s, ans', p, h1, h2, h3⟩ := stepT_ok (N := N) h hq
      exact .inr ⟨hg, s, h1, runTA_ok hK h2 h3⟩
    have skip : ∀ {ans : AT P} {q : Prop}, grdB ρ o.grd = some false → (putA o.dst noRes ρ hl fs fun ρ hl fs => runTA P os ρ hl fs ans K) = some q → q → Rg P N (o :: os) ρ hl fs Kp := by
      intro ans q hg h hq
      rw [putA_eq, appL_no] at h
      exact .inl ⟨hg, runTA_ok hK h hq⟩
    unfold runTA at h
    split at h
    · rename_i hg
      exact step (by rw [hg]; rfl) h hq
    · rename_i t want hg
      split at h
      · rename_i hv
        exact skip (by rw [hg]; simp only [grdB, hv]) h hq
      · rename_i b hv
        split at h
        · rename_i x y _
          split at h
          · obtain ⟨h1, h2⟩ := orO_ok h hq
            cases b with
            | true =>
              obtain ⟨r, r1, r2⟩ := h1 rfl
              rw [setE_id hv] at r1
              exact step (by rw [hg]; simp only [grdB, hv]; rfl) r1 r2
            | false =>
              obtain ⟨r, r1, r2⟩ := h2 rfl
              rw [setE_id hv] at r1
              exact skip (by rw [hg]; simp only [grdB, hv]; rfl) r1 r2
          · obtain ⟨h1, h2⟩ := orO_ok h hq
            cases b with
            | true =>
              obtain ⟨r, r1, r2⟩ := h1 rfl
              rw [setE_id hv] at r1
              exact skip (by rw [hg]; simp only [grdB, hv]; rfl) r1 r2
            | false =>
              obtain ⟨r, r1, r2⟩ := h2 rfl
              rw [setE_id hv] at r1
              exact step (by rw [hg]; simp only [grdB, hv]; rfl) r1 r2
        · split at h
          · rename_i c r _
            obtain ⟨rfl, p, hp, hpp⟩ := andO_ok h hq
            rw [setE_id hv] at hp
            split at hp
            · rename_i hbw
              exact step (by rw [hg]; simp only [grdB, hv, hbw]) hp hpp
            · rename_i hbw
              exact skip (by rw [hg]; simp only [grdB, hv, hbw]) hp hpp
          · split at h
            · rename_i hbw
              exact step (by rw [hg]; simp only [grdB, hv, hbw]) h hq
            · rename_i hbw
              exact skip (by rw [hg]; simp only [grdB, hv, hbw]) h hq
      · cases h
theorem runT_ok : ∀ {c : AC} {n0 : Nat} {ρ : Env} {hl : List Ob} {ans : AT P} {q : Prop} {Q : Exit → Env → List Ob → Prop} {K : Exit → Env → List Ob → AT P → Option Prop}, (∀ ex ρ hl ans p, K ex ρ hl ans = some p → p → Q ex ρ hl) → runT P c ρ hl ans K = some q → q → Tri P N n0 c ρ hl Q
  | .skip, n0, ρ, hl, ans, q, Q, K, hK, h, hq => Tri.skip (hK _ _ _ _ _ h hq)
  | .exit i, n0, ρ, hl, ans, q, Q, K, hK, h, hq => Tri.exit (hK _ _ _ _ _ h hq)
  | .ret, n0, ρ, hl, ans, q, Q, K, hK, h, hq => Tri.ret (hK _ _ _ _ _ h hq)
  | .loop a, n0, ρ, hl, ans, q, Q, K, hK, h, hq => by cases h
  | .region l up, n0, ρ, hl, ans, q, Q, K, hK, h, hq => by
    unfold runT at h
    refine Tri.gs (runTA_ok (fun ρ hl fs ans p hp hq => ?_) h hq)
    split at hp
    · rename_i ho; exact ⟨ho, hK _ _ _ _ _ hp hq⟩
    · cases hp
  | .seq a b, n0, ρ, hl, ans, q, Q, K, hK, h, hq => by
    unfold runT at h
    refine Tri.seq (runT_ok (c := a) (Q := thenQ (fun ρ' hl' => Tri P N n0 b ρ' hl' Q) Q) (fun ex ρ hl ans p hp hq => ?_) h hq)
    cases ex with
    | normal => exact runT_ok (c := b) hK hp hq
    | _ => exact hK _ _ _ _ _ hp hq
  | .cond c a b, n0, ρ, hl, ans, q, Q, K, hK, h, hq => by
    unfold runT at h
    split at h
    · rename_i v hv
      split at h
      · rename_i x y _
        obtain ⟨h1, h2⟩ := orO_ok h hq
        refine Tri.cond hv (fun e => ?_) (fun e => ?_)
        · obtain ⟨r, r1, r2⟩ := h1 e
          rw [setX_id (by rw [hv, e])] at r1
          exact runT_ok (c := a) hK r1 r2
        · obtain ⟨r, r1, r2⟩ := h2 e
          rw [setX_id (by rw [hv, e])] at r1
          exact runT_ok (c := b) hK r1 r2
      · split at h
        · rename_i w r _
          obtain ⟨rfl, p, hp, hpp⟩ := andO_ok h hq
          rw [setX_id hv] at hp
          split at hp
          · exact Tri.cond hv (fun _ => runT_ok (c := a) hK hp hpp) (fun e => by cases e)
          · exact Tri.cond hv (fun e => by cases e) (fun _ => runT_ok (c := b) hK hp hpp)
        · split at h
          · exact Tri.cond hv (fun _ => runT_ok (c := a) hK h hq) (fun e => by cases e)
          · exact Tri.cond hv (fun e => by cases e) (fun _ => runT_ok (c := b) hK h hq)
    · cases h
  | .block i a, n0, ρ, hl, ans, q, Q, K, hK, h, hq => by
    unfold runT at h
    refine Tri.block (runT_ok (c := a) (Q := blockQ i Q) (fun ex ρ hl ans p hp hq => ?_) h hq)
    cases ex with
    | exit j =>
      simp only at hp
      split at hp
      · rename_i hj
        simp only [blockQ]
        rw [if_pos (Nat.eq_of_beq_eq_true hj)]
        exact hK _ _ _ _ _ hp hq
      · rename_i hj
        simp only [blockQ]
        rw [if_neg (Nat.ne_of_beq_eq_false hj)]
        exact hK _ _ _ _ _ hp hq
    | _ => exact hK _ _ _ _ _ hp hq
def leafQ {P : Program} (Q : Exit → Env → List Ob → Prop) (ex : Exit) (ρ : Env) (hl : List Ob) : AT P → Option Prop
  | .nil => some (Q ex ρ hl)
  | _ => none
/-- A piece of code without loops, all its roads at once. -/
theorem Tri.tree {c : AC} {n0 : Nat} {ρ : Env} {hl : List Ob} {Q : Exit → Env → List Ob → Prop} (ans : AT P) {q : Prop} (h : runT P c ρ hl ans (leafQ Q) = some q) (hq : q) : Tri P N n0 c ρ hl Q :=
  runT_ok (fun ex ρ hl ans p hp hq => by
    cases ans with
    | nil => cases hp; exact hq
    | _ => cases hp) h hq
def leafR {P : Program} (res : List AR) (n0 : Nat) (r : V) (hs : List Ob) (ex : Exit) (ρ : Env) (hl : List Ob) : AT P → Option Prop
  | .nil => match ex with
    | .ret => match finR res [] [] n0 ρ hl with
      | some (p, r', _ :: _) => none
      | some (p, r', []) => some (p ∧ hs = [] ∧ leP r' r)
      | none => none
    | _ => none
  | .a (.call σ τ _ _) .nil => match ex with
    | .ret => match finR res σ τ n0 ρ hl with
      | some (p, r', hs'') => some (p ∧ LeOs hs'' hs ∧ leP r' r)
      | none => none
    | _ => none
  | _ => none
theorem leafR_ok {P : Program} {res : List AR} {n0 : Nat} {r : V} {hs : List Ob} {ex : Exit} {ρ : Env} {hl : List Ob} {ans : AT P} {q : Prop} (h : leafR res n0 r hs ex ρ hl ans = some q) (hq : q) : RetQ res n0 r hs ex ρ hl := by
  unfold leafR at h
  split at h
  · split at h
    · split at h
      · cases h
      · rename_i hf
        cases h
        obtain ⟨h1, h2, h3⟩ := hq
        exact RetQ.of _ _ hf h1 (leP_ok h3) h2.symm
      · cases h
    · cases h
  · split at h
    · split at h
      · rename_i hf
        cases h
        obtain ⟨h1, h2, h3⟩ := hq
        exact RetQ.le _ _ hf h1 (leP_ok h3) h2
      · cases h
    · cases h
  · cases h
theorem Tri.treeR {c : AC} {n0 : Nat} {ρ : Env} {hl : List Ob} {res : List AR} {r : V} {hs : List Ob} (ans : AT P) {q : Prop} (h : runT P c ρ hl ans (leafR res n0 r hs) = some q) (hq : q) : Tri P N n0 c ρ hl (RetQ res n0 r hs) :=
  runT_ok (fun ex ρ hl ans p hp hq => leafR_ok hp hq) h hq
/-- A function without loops, all its roads at once. -/
theorem FnOk.tree {f : FuncId} {np n0 : Nat} {body : AC} {res : List AR} {vs : List V} {ρ : Env} {hs hs' : List Ob} {r : V} (hf : FnAt P f ⟨np, N, body, res⟩) (ans : AT P) {q : Prop} (hlen : vs.length = np) (hn : fN hs.length some = some n0) (hρ : fEnv 0 vs some = some ρ)
    (h : runT P body ρ hs ans (leafR res n0 r hs') = some q) (hq : q) : FnOk P f vs hs r hs' :=
  FnOk.start hf hlen hn hρ (Tri.treeR ans h hq)
end
end Go.Proofs.Ytheaeddojcebjaa
