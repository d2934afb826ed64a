/-
  Whole pieces of code at once: what is not told by the code (cases, calls' answers, what stands at a place) is handed in as a list.
-/
import Derived.Test.YtheaeddojcebjaaK23
set_option linter.unusedVariables false
set_option linter.unusedSimpArgs false
namespace Go.Proofs.Ytheaeddojcebjaa
open Go.RowKit

inductive Ans where
  | b (t : Nat) (b : Bool)
  | lend (τ : List Nat) (r : V)
  | call (σ τ : List Nat) (r : V) (hs : List Ob)
  | at (r : List D)
  | tx (r : List Int)
/-- Operations that ask for nothing. -/
def triv : AOp → Bool
  | .mv _ => true
  | .pick _ _ _ => true
  | .box _ => true
  | .alloc _ => true
  | .binB _ _ _ => true
  | .un _ _ => true
  | .same _ => true
  | .extract _ _ => true
  | .len _ _ => true
  | .fieldAddr _ _ => true
  | .nilCheck _ => true
  | .bin .eql _ _ => true
  | .bin .neq _ _ => true
  | .bin .lss _ _ => true
  | .bin .leq _ _ => true
  | .bin .gtr _ _ => true
  | .bin .geq _ _ => true
  | _ => false
/-- Cells that are counted: nothing is to be asked. -/
def autoB (op : AOp) (ρ : Env) (hl : List Ob) : Bool := match op with
  | .store n a x => match ev ρ a, ev ρ x with
    | some (.e (.c (.ptr id off))), some (.e e) => match hx hl id with
      | .box cs => Nat.beq e.cells.length n && Nat.ble (off + n) cs.length
      | _ => false
    | _, _ => false
  | .load n x => match ev ρ x with
    | some (.e (.c (.ptr id off))) => match hx hl id with
      | .box cs => match n with
        | none => true
        | some n => Nat.ble (off + n) cs.length
      | _ => false
    | some (.e (.c (.im _))) => match n with
      | none => true
      | some _ => false
    | _ => false
  | .build zero parts => match evP ρ parts with
    | some ps => ps.all fun r => Nat.beq r.2.2.cells.length r.2.1 && Nat.ble (r.1 + r.2.1) zero.length
    | none => false
  | _ => false
theorem fillC_ok : ∀ (ps : List (Nat × Nat × E)) (zero : List C) {p : Prop} {cs : List C}, fillC zero ps = some (p, cs) → (ps.all fun r => Nat.beq r.2.2.cells.length r.2.1 && Nat.ble (r.1 + r.2.1) zero.length) = true → p
  | [], zero, p, cs, h, _ => by cases h; trivial
  | (off, n, e) :: r, zero, p, cs, h, ha => by
    unfold fillC at h
    simp only [List.all_cons, Bool.and_eq_true] at ha
    split at h
    · rename_i p' cs' hr
      cases h
      exact ⟨⟨Nat.eq_of_beq_eq_true ha.1.1, Nat.le_of_ble_eq_true ha.1.2⟩, fillC_ok r _ hr (by rw [putAt_length]; exact ha.2)⟩
    · cases h
theorem auto_ok {op : AOp} {ρ : Env} {hl : List Ob} {p : Prop} {s : Res} (h : aopx op ρ hl = some (p, s)) (ht : autoB op ρ hl = true) : p := by
  cases op with
  | store n a x =>
    simp only [autoB] at ht
    simp only [aopx, aop] at h
    split at ht
    · rename_i id off e e1 e2
      rw [e1, e2] at h
      simp only at h
      split at ht
      · rename_i cs hid
        rw [hid] at h
        simp only [Bool.and_eq_true] at ht
        cases h
        exact ⟨Nat.eq_of_beq_eq_true ht.1, Nat.le_of_ble_eq_true ht.2⟩
      · cases ht
    · cases ht
  | load n x =>
    simp only [autoB] at ht
    simp only [aopx, aop] at h
    split at ht
    · rename_i id off e1
      rw [e1] at h
      simp only at h
      split at ht
      · rename_i cs hid
        rw [hid] at h
        simp only at h
        cases n with
        | none =>
          simp only [sub1] at h
          cases hc : cs[off]? with
          | none => rw [hc] at h; cases h
          | some c => rw [hc] at h; cases h; trivial
        | some n =>
          simp only [sub1] at h
          cases hb : (Nat.beq off 0 && Nat.beq n cs.length) with
          | true => rw [hb] at h; cases h; trivial
          | false => rw [hb] at h; cases h; exact Nat.le_of_ble_eq_true ht
      · cases ht
    · rename_i ds e1
      rw [e1] at h
      simp only at h
      cases n with
      | none =>
        simp only at h
        cases ds with
        | nil => cases h
        | cons d ds => cases h; trivial
      | some n => cases ht
    · cases ht
  | build zero parts =>
    simp only [autoB] at ht
    simp only [aopx, aop] at h
    split at ht
    · rename_i ps e1
      rw [e1] at h
      simp only at h
      split at h
      · rename_i p' cs hf
        cases h
        exact fillC_ok ps zero hf ht
      · cases h
    · cases ht
  | _ => cases ht
/-- What an operation asks for. -/
def ask1 (op : AOp) (ρ : Env) (hl : List Ob) (p : Prop) (k : Prop → Prop) : Prop → Prop := match triv op with
  | true => k
  | false => match autoB op ρ hl with
    | true => k
    | false => fun q => k (p ∧ q)
/-- The operand's temporary, if it is one, holds v. -/
def setX {β : Type} (x : AX) (v : V) (ρ : Env) (k : Env → β) : β := match x with
  | .tmp t => setE t v ρ k
  | .k _ => k ρ
theorem setE_id {β : Type} {t : Nat} {v : V} {ρ : Env} {k : Env → β} (h : get ρ t = some v) : setE t v ρ k = k ρ := by
  rw [setE_k]
  congr 1
  induction ρ with
  | nil => rfl
  | cons x r ih =>
    obtain ⟨q, x⟩ := x
    simp only [get] at h
    unfold setE
    cases hq : Nat.beq q t with
    | true => rw [hq] at h; simp only [cond_true] at h ⊢; cases h; rfl
    | false =>
      rw [hq] at h
      simp only [cond_false] at h ⊢
      rw [setE_k, ih h]
      rfl
theorem setX_id {β : Type} {x : AX} {v : V} {ρ : Env} {k : Env → β} (h : ev ρ x = some v) : setX x v ρ k = k ρ := by
  cases x with
  | tmp t => exact setE_id h
  | k e => rfl
theorem setX_k {β : Type} (x : AX) (v : V) (ρ : Env) (k : Env → β) : setX x v ρ k = k (setX x v ρ id) := by
  cases x with
  | tmp t => exact setE_k t v ρ k
  | k e => rfl
def askK {β : Type} (op : AOp) (ρ : Env) (hl : List Ob) (p : Prop) (k : Prop → Prop) (F : (Prop → Prop) → β) : β := match triv op with
  | true => F k
  | false => match autoB op ρ hl with
    | true => F k
    | false => F fun q => k (p ∧ q)
theorem askK_eq {β : Type} (op : AOp) (ρ : Env) (hl : List Ob) (p : Prop) (k : Prop → Prop) (F : (Prop → Prop) → β) : askK op ρ hl p k F = F (ask1 op ρ hl p k) := by
  unfold askK ask1
  cases triv op
  · cases autoB op ρ hl <;> rfl
  · rfl
structure Sa where
  ρ : Env
  hl : List Ob
  fs : List Ft
  ans : List Ans
  k : Prop → Prop
def putA {β : Type} (d : Option Nat) (s : Res) (ρ : Env) (hl : List Ob) (fs : List Ft) (K : Env → List Ob → List Ft → β) : β :=
  fPt d s.v ρ fun ρ' => fAp s hl fun hl' => fFt s hl.length fun f => K ρ' hl' (fs ++ [f])
theorem putA_eq {β : Type} (d : Option Nat) (s : Res) (ρ : Env) (hl : List Ob) (fs : List Ft) (K : Env → List Ob → List Ft → β) : putA d s ρ hl fs K = K (pt d s.v ρ) (appL s hl) (fs ++ [s.ft hl.length]) := by
  simp only [putA, fPt_eq, fAp_eq, fFt_eq]
/-- One operation that is no call. -/
def stepD {β : Type} (d : Option Nat) (op : AOp) (ρ : Env) (hl : List Ob) (fs : List Ft) (ans : List Ans) (k : Prop → Prop) (K : Env → List Ob → List Ft → List Ans → (Prop → Prop) → Option β) : Option β :=
  match aopx op ρ hl with
  | some (p, s) => match idsB hl s with
    | true => askK op ρ hl p k fun k => putA d s ρ hl fs fun ρ hl fs => K ρ hl fs ans k
    | false => none
  | none => match ans with
    | .at r :: ans => match aopi op ρ hl r with
      | some (p, s) => putA d s ρ hl fs fun ρ hl fs => K ρ hl fs ans fun q => k (p ∧ q)
      | none => none
    | _ => none
/-- One operation. -/
def stepA {β : Type} (P : Program) (d : Option Nat) (op : AOp) (ρ : Env) (hl : List Ob) (fs : List Ft) (ans : List Ans) (k : Prop → Prop) (K : Env → List Ob → List Ft → List Ans → (Prop → Prop) → Option β) : Option β :=
  match op with
  | .call f axs => match evs ρ axs with
    | some avs => match ans with
      | .lend τ r :: ans => match listM (V.bk [] τ hl) avs with
        | some vs => match r.plain with
          | true => vwVs [] τ hl avs True fun pv => putA d { v := r, rd := τ } ρ hl fs fun ρ hl fs => K ρ hl fs ans fun q => k (pv ∧ FnOk P f vs [] r [] ∧ q)
          | false => none
        | none => none
      | .call σ τ r hs' :: ans => match listM (V.bk σ τ hl) avs, listM (Ob.bk σ hl) (σ.map (hx hl)) with
        | some vs, some hs => match (decide (σ ++ τ).Nodup && (σ ++ τ).all (fun i => decide (i < hl.length))) && (hs'.all Ob.ok && r.ok) with
          | true => vwVs σ τ hl avs True fun pv => putA d (callRes σ τ hl.length r hs') ρ hl fs fun ρ hl fs => K ρ hl fs ans fun q => k (pv ∧ FnOk P f vs hs r hs' ∧ q)
          | false => none
        | _, _ => none
      | _ => none
    | none => none
  | .callv x axs => match evs ρ axs, ev ρ x with
    | some avs, some (.e (.c (.fn f cs))) => match ans with
      | .call σ τ r hs' :: ans => match listM (V.bk σ τ hl) (avs ++ cs.map vC), listM (Ob.bk σ hl) (σ.map (hx hl)) with
        | some vs, some hs => match (decide (σ ++ τ).Nodup && (σ ++ τ).all (fun i => decide (i < hl.length))) && (hs'.all Ob.ok && r.ok) with
          | true => vwVs σ τ hl (avs ++ cs.map vC) True fun pv => putA d (callRes σ τ hl.length r hs') ρ hl fs fun ρ hl fs => K ρ hl fs ans fun q => k (pv ∧ FnOk P f vs hs r hs' ∧ q)
          | false => none
        | _, _ => none
      | _ => none
    | _, _ => none
  | .bstr ax => match ans with
    | .tx r :: ans => match aopb (.bstr ax) ρ hl r with
      | some (p, s) => putA d s ρ hl fs fun ρ hl fs => K ρ hl fs ans fun q => k (p ∧ q)
      | none => none
    | _ => none
  | op => stepD d op ρ hl fs ans k K
/-- The answer to the case of a temporary. -/
def popB (t : Nat) : List Ans → Option (Bool × List Ans)
  | .b u c :: r => match Nat.beq u t with
    | true => some (c, r)
    | false => none
  | _ => none
def popX : AX → List Ans → Option (Bool × List Ans)
  | .tmp t, l => popB t l
  | .k _, _ => none
def runA (P : Program) : List AO → Env → List Ob → List Ft → List Ans → (Prop → Prop) → Option Sa
  | [], ρ, hl, fs, ans, k => some ⟨ρ, hl, fs, ans, k⟩
  | o :: os, ρ, hl, fs, ans, k => match o.grd with
    | none => stepA P o.dst o.op ρ hl fs ans k fun ρ hl fs ans k => runA P os ρ hl fs ans k
    | some (t, want) => match get ρ t with
      | some .u => putA o.dst noRes ρ hl fs fun ρ hl fs => runA P os ρ hl fs ans k
      | some (.e (.c (.t (.bool b)))) => match popB t ans with
        | some (c, ans) => setE t (vB c) ρ fun ρ => match c == want with
          | true => stepA P o.dst o.op ρ hl fs ans (fun q => k (b = c ∧ q)) fun ρ hl fs ans k => runA P os ρ hl fs ans k
          | false => putA o.dst noRes ρ hl fs fun ρ hl fs => runA P os ρ hl fs ans fun q => k (b = c ∧ q)
        | none => match b == want with
          | true => stepA P o.dst o.op ρ hl fs ans k fun ρ hl fs ans k => runA P os ρ hl fs ans k
          | false => putA o.dst noRes ρ hl fs fun ρ hl fs => runA P os ρ hl fs ans k
      | _ => none
structure Sc where
  ex : Exit
  ρ : Env
  hl : List Ob
  ans : List Ans
  k : Prop → Prop
def runC (P : Program) : AC → Env → List Ob → List Ans → (Prop → Prop) → Option Sc
  | .skip, ρ, hl, ans, k => some ⟨.normal, ρ, hl, ans, k⟩
  | .region l up, ρ, hl, ans, k => match runA P l ρ hl [] ans k with
    | some ⟨ρ, hl, fs, ans, k⟩ => match ordU up fs with
      | true => some ⟨.normal, ρ, hl, ans, k⟩
      | false => none
    | none => none
  | .seq a b, ρ, hl, ans, k => match runC P a ρ hl ans k with
    | some ⟨.normal, ρ, hl, ans, k⟩ => runC P b ρ hl ans k
    | some s => some s
    | none => none
  | .cond c a b, ρ, hl, ans, k => match ev ρ c with
    | some (.e (.c (.t (.bool v)))) => match popX c ans with
      | some (w, ans) => setX c (vB w) ρ fun ρ => match w with
        | true => runC P a ρ hl ans fun q => k (v = true ∧ q)
        | false => runC P b ρ hl ans fun q => k (v = false ∧ q)
      | none => match v with
        | true => runC P a ρ hl ans k
        | false => runC P b ρ hl ans k
    | _ => none
  | .block i a, ρ, hl, ans, k => match runC P a ρ hl ans k with
    | some ⟨.exit j, ρ, hl, ans, k⟩ => match Nat.beq j i with
      | true => some ⟨.normal, ρ, hl, ans, k⟩
      | false => some ⟨.exit j, ρ, hl, ans, k⟩
    | some s => some s
    | none => none
  | .loop _, _, _, _, _ => none
  | .exit i, ρ, hl, ans, k => some ⟨.exit i, ρ, hl, ans, k⟩
  | .ret, ρ, hl, ans, k => some ⟨.ret, ρ, hl, ans, k⟩

/-- What is asked grows. -/
structure Grow (k k' : Prop → Prop) : Prop where
  one : ∀ q, k' q → q
  all : ∀ q, k' q → ∃ q', k q'
theorem Grow.refl {k : Prop → Prop} (h : ∀ q, k q → q) : Grow k k := ⟨h, fun q hq => ⟨q, hq⟩⟩
theorem Grow.and {k k' : Prop → Prop} {p : Prop} (h : Grow (fun q => k (p ∧ q)) k') : Grow k k' := ⟨h.one, fun q hq => let ⟨q', h'⟩ := h.all q hq; ⟨_, h'⟩⟩
theorem Grow.get {k k' : Prop → Prop} {p : Prop} (hk : ∀ q, k q → q) (h : Grow (fun q => k (p ∧ q)) k') {q : Prop} (hq : k' q) : p := by
  obtain ⟨q', h'⟩ := h.all q hq
  exact (hk _ h').1
theorem Grow.trans {a b c : Prop → Prop} (h : Grow a b) (h' : Grow b c) : Grow a c := ⟨h'.one, fun q hq => let ⟨_, h1⟩ := h'.all q hq; h.all _ h1⟩
theorem condSome {b : Bool} {x v : V} {p : Prop} (h : (bif b then some (True, x) else none) = some (p, v)) : p := by
  cases b <;> cases h; trivial
theorem triv_ok {op : AOp} {ρ : Env} {hl : List Ob} {p : Prop} {s : Res} (h : aopx op ρ hl = some (p, s)) (ht : triv op = true) : p := by
  cases op with
  | bin o x y =>
    simp only [aopx] at h
    split at h
    · split at h
      · rename_i p' v he
        cases h
        cases o <;> first | (cases ht; done) | skip
        all_goals
          unfold exact at he
          split at he
          · simp only [bin] at he
            cases he
            trivial
          · unfold bin at he
            split at he
            · simp only at he
              exact condSome he
            · simp only at he
              first | (cases he; done) | (cases he; trivial)
            · cases he
      · cases h
    · cases h
  | mv x => simp only [aopx, aop] at h; split at h <;> cases h; trivial
  | pick c x y => simp only [aopx, aop] at h; split at h <;> cases h <;> trivial
  | box x => simp only [aopx, aop] at h; split at h <;> cases h; trivial
  | alloc x => simp only [aopx, aop] at h; cases h; trivial
  | binB n x y => simp only [aopx, aop] at h; split at h <;> cases h; trivial
  | un o x => simp only [aopx, aop] at h; split at h <;> cases h <;> trivial
  | same x => simp only [aopx, aop] at h; split at h <;> cases h; trivial
  | extract x i => simp only [aopx, aop] at h; split at h <;> (try cases h); split at h <;> cases h; trivial
  | len st x =>
    simp only [aopx, aop] at h
    cases st with
    | true => simp only [cond_true] at h; split at h <;> cases h; trivial
    | false =>
      simp only [cond_false] at h
      split at h
      · rename_i v _
        cases hs : isStr v with
        | true => rw [hs] at h; cases h
        | false => rw [hs] at h; simp only [cond_false] at h; split at h <;> cases h; trivial
      · cases h
  | fieldAddr o x => simp only [aopx, aop] at h; split at h <;> cases h <;> trivial
  | nilCheck x => simp only [aopx, aop] at h; split at h <;> cases h <;> trivial
  | _ => cases ht
theorem ask1_ok {op : AOp} {ρ : Env} {hl : List Ob} {p : Prop} {s : Res} {k k' : Prop → Prop} (h : aopx op ρ hl = some (p, s)) (hk : ∀ q, k q → q) (hg : Grow (ask1 op ρ hl p k) k') : Grow k k' ∧ ∀ q, k' q → p := by
  unfold ask1 at hg
  cases ht : triv op with
  | true => rw [ht] at hg; exact ⟨hg, fun q _ => triv_ok h ht⟩
  | false =>
    rw [ht] at hg
    cases hu : autoB op ρ hl with
    | true => rw [hu] at hg; exact ⟨hg, fun q _ => auto_ok h hu⟩
    | false => rw [hu] at hg; exact ⟨hg.and, fun q hq => hg.get hk hq⟩
theorem ask1_id {op : AOp} {ρ : Env} {hl : List Ob} {p : Prop} {k : Prop → Prop} (hk : ∀ q, k q → q) : ∀ q, ask1 op ρ hl p k q → q := by
  unfold ask1
  cases triv op with
  | true => exact hk
  | false =>
    cases autoB op ρ hl with
    | true => exact hk
    | false => exact fun q hq => (hk _ hq).2
section
variable {P : Program} {N : Nat} {β : Type}
theorem stepD_ok {op : AOp} {d : Option Nat} {ρ : Env} {hl : List Ob} {fs : List Ft} {ans : List Ans} {k : Prop → Prop} {K : Env → List Ob → List Ft → List Ans → (Prop → Prop) → Option β} {r : β} (hk : ∀ q, k q → q) (h : stepD d op ρ hl fs ans k K = some r) :
    ∃ s ans' k1, (∀ q, k1 q → q) ∧ K (pt d s.v ρ) (appL s hl) (fs ++ [s.ft hl.length]) ans' k1 = some r ∧ ∀ k', Grow k1 k' → Grow k k' ∧ ∀ q, k' q → OpS P N op ρ hl s := by
  unfold stepD at h
  split at h
  · rename_i p s ha
    split at h
    · rename_i hi
      rw [askK_eq, putA_eq] at h
      refine ⟨s, ans, _, ask1_id hk, h, fun k' hg => ?_⟩
      obtain ⟨g1, g2⟩ := ask1_ok ha hk hg
      refine ⟨g1, fun q hq => ?_⟩
      obtain ⟨p', q1, q2⟩ := aopx_ok ha (g2 q hq)
      exact ⟨idsB_ok hi, fun o' ho => aop_ok ho q1 q2⟩
    · cases h
  · cases ans with
    | nil => cases h
    | cons x ans' =>
      cases x with
      | «at» row =>
        simp only at h
        split at h
        · rename_i p s ha
          rw [putA_eq] at h
          exact ⟨s, ans', _, fun q hq => (hk _ hq).2, h, fun k' hg => ⟨hg.and, fun q hq => OpS.opi row ha (hg.get hk hq)⟩⟩
        · cases h
      | _ => cases h
/-- One operation's step, and what is behind it. -/
theorem stepA_ok {op : AOp} {d : Option Nat} {ρ : Env} {hl : List Ob} {fs : List Ft} {ans : List Ans} {k : Prop → Prop} {K : Env → List Ob → List Ft → List Ans → (Prop → Prop) → Option β} {r : β} (hk : ∀ q, k q → q) (h : stepA P d op ρ hl fs ans k K = some r) :
    ∃ s ans' k1, (∀ q, k1 q → q) ∧ K (pt d s.v ρ) (appL s hl) (fs ++ [s.ft hl.length]) ans' k1 = some r ∧ ∀ k', Grow k1 k' → Grow k k' ∧ ∀ q, k' q → OpS P N op ρ hl s := by
  cases op with
  | call f axs =>
    simp only [stepA] at h
    split at h
    · rename_i avs hev
      split at h
      · rename_i τ r0 ans'
        split at h
        · rename_i vs hbv
          split at h
          · rename_i hp
            rw [vwVs_k, putA_eq] at h
            refine ⟨_, ans', _, fun q hq => (hk _ hq).2.2, h, fun k' hg => ⟨⟨hg.one, fun q hq => let ⟨q', h'⟩ := hg.all q hq; ⟨_, h'⟩⟩, fun q hq => ?_⟩⟩
            obtain ⟨q', h'⟩ := hg.all q hq
            obtain ⟨h1, h2, _⟩ := hk _ h'
            exact OpS.lend τ hev hbv (by rw [vwVs_k]) h1 hp h2
          · cases h
        · cases h
      · rename_i σ τ r0 hs' ans'
        split at h
        · rename_i vs hs hbv hbo
          split at h
          · rename_i hc
            rw [vwVs_k, putA_eq] at h
            refine ⟨_, ans', _, fun q hq => (hk _ hq).2.2, h, fun k' hg => ⟨⟨hg.one, fun q hq => let ⟨q', h'⟩ := hg.all q hq; ⟨_, h'⟩⟩, fun q hq => ?_⟩⟩
            obtain ⟨q', h'⟩ := hg.all q hq
            obtain ⟨h1, h2, _⟩ := hk _ h'
            exact OpS.call σ τ hev hbv (by rw [vwVs_k]) h1 hbo hc h2
          · cases h
        · cases h
      · cases h
    · cases h
  | callv x axs =>
    simp only [stepA] at h
    split at h
    · rename_i avs f cs hev hf
      split at h
      · rename_i σ τ r0 hs' ans'
        split at h
        · rename_i vs hs hbv hbo
          split at h
          · rename_i hc
            rw [vwVs_k, putA_eq] at h
            refine ⟨_, ans', _, fun q hq => (hk _ hq).2.2, h, fun k' hg => ⟨⟨hg.one, fun q hq => let ⟨q', h'⟩ := hg.all q hq; ⟨_, h'⟩⟩, fun q hq => ?_⟩⟩
            obtain ⟨q', h'⟩ := hg.all q hq
            obtain ⟨h1, h2, _⟩ := hk _ h'
            exact OpS.callv σ τ hf hev hbv (by rw [vwVs_k]) h1 hbo hc h2
          · cases h
        · cases h
      · cases h
    · cases h
  | bstr ax =>
    simp only [stepA] at h
    cases ans with
    | nil => cases h
    | cons x ans' =>
      cases x with
      | tx row =>
        simp only at h
        split at h
        · rename_i p s ha
          rw [putA_eq] at h
          exact ⟨s, ans', _, fun q hq => (hk _ hq).2, h, fun k' hg => ⟨hg.and, fun q hq => OpS.opb row ha (hg.get hk hq)⟩⟩
        · cases h
      | _ => cases h
  | _ => exact stepD_ok hk h
theorem runA_ok : ∀ {os : List AO} {ρ : Env} {hl : List Ob} {fs : List Ft} {ans : List Ans} {k : Prop → Prop} {r : Sa} {K : Env → List Ob → List Ft → Prop}, (∀ q, k q → q) → runA P os ρ hl fs ans k = some r →
    Grow k r.k ∧ ∀ q, r.k q → K r.ρ r.hl r.fs → Rg P N os ρ hl fs K
  | [], ρ, hl, fs, ans, k, r, K, hk, h => by cases h; exact ⟨Grow.refl hk, fun _ _ h => h⟩
  | o :: os, ρ, hl, fs, ans, k, r, K, hk, h => by
    have step : ∀ {ans : List Ans} {k : Prop → Prop}, (∀ q, k q → q) → grdB ρ o.grd = some true → (stepA P o.dst o.op ρ hl fs ans k fun ρ hl fs ans k => runA P os ρ hl fs ans k) = some r → Grow k r.k ∧ ∀ q, r.k q → K r.ρ r.hl r.fs → Rg P N (o :: os) ρ hl fs K := by
      intro ans k hk hg h
      obtain ⟨s, ans', k1, h1, h2, h3⟩ := stepA_ok (N := N) hk h
      obtain ⟨g1, g2⟩ := runA_ok (K := K) h1 h2
      obtain ⟨g3, g4⟩ := h3 _ g1
      exact ⟨g3, fun q hq hK => .inr ⟨hg, s, g4 q hq, g2 q hq hK⟩⟩
    have skip : ∀ {ans : List Ans} {k : Prop → Prop}, (∀ q, k q → q) → grdB ρ o.grd = some false → (putA o.dst noRes ρ hl fs fun ρ hl fs => runA P os ρ hl fs ans k) = some r → Grow k r.k ∧ ∀ q, r.k q → K r.ρ r.hl r.fs → Rg P N (o :: os) ρ hl fs K := by
      intro ans k hk hg h
      rw [putA_eq, appL_no] at h
      obtain ⟨g1, g2⟩ := runA_ok (K := K) hk h
      exact ⟨g1, fun q hq hK => .inl ⟨hg, g2 q hq hK⟩⟩
    unfold runA at h
    split at h
    · rename_i hg
      exact step hk (by rw [hg]; rfl) h
    · rename_i t want hg
      split at h
      · rename_i hv
        exact skip hk (by rw [hg]; simp only [grdB, hv]) h
      · rename_i b hv
        split at h
        · rename_i c ans' _
          by_cases hbc : b = c
          case neg =>
            rw [setE_k] at h
            split at h
            · obtain ⟨s, ans'', k1, h1, h2, h3⟩ := stepA_ok (N := N) (k := fun q => k (b = c ∧ q)) (fun q hq => (hk _ hq).2) h
              obtain ⟨g1, g2⟩ := runA_ok (K := K) h1 h2
              obtain ⟨g3, g4⟩ := h3 _ g1
              exact ⟨g3.and, fun q hq => absurd (g3.get hk hq) hbc⟩
            · rw [putA_eq, appL_no] at h
              obtain ⟨g1, g2⟩ := runA_ok (K := K) (k := fun q => k (b = c ∧ q)) (fun q hq => (hk _ hq).2) h
              exact ⟨g1.and, fun q hq => absurd (g1.get hk hq) hbc⟩
          rw [setE_id (by rw [hv, hbc])] at h
          split at h
          · rename_i hcw
            obtain ⟨g1, g2⟩ : Grow (fun q => k (b = c ∧ q)) r.k ∧ ∀ q, r.k q → K r.ρ r.hl r.fs → Rg P N (o :: os) ρ hl fs K := by
              obtain ⟨s, ans'', k1, h1, h2, h3⟩ := stepA_ok (N := N) (k := fun q => k (b = c ∧ q)) (fun q hq => (hk _ hq).2) h
              obtain ⟨g1, g2⟩ := runA_ok (K := K) h1 h2
              obtain ⟨g3, g4⟩ := h3 _ g1
              refine ⟨g3, fun q hq hK => .inr ⟨?_, s, g4 q hq, g2 q hq hK⟩⟩
              have : b = c := g3.get hk hq
              rw [hg]; simp only [grdB, hv, this, hcw]
            exact ⟨g1.and, g2⟩
          · rename_i hcw
            rw [putA_eq, appL_no] at h
            obtain ⟨g1, g2⟩ := runA_ok (K := K) (k := fun q => k (b = c ∧ q)) (fun q hq => (hk _ hq).2) h
            refine ⟨g1.and, fun q hq hK => .inl ⟨?_, g2 q hq hK⟩⟩
            have : b = c := g1.get hk hq
            rw [hg]; simp only [grdB, hv, this, hcw]
        · split at h
          · rename_i hbw
            exact step hk (by rw [hg]; simp only [grdB, hv, hbw]) h
          · rename_i hbw
            exact skip hk (by rw [hg]; simp only [grdB, hv, hbw]) h
      · cases h
theorem runC_ok : ∀ {c : AC} {n0 : Nat} {ρ : Env} {hl : List Ob} {ans : List Ans} {k : Prop → Prop} {r : Sc} {Q : Exit → Env → List Ob → Prop}, (∀ q, k q → q) → runC P c ρ hl ans k = some r →
    Grow k r.k ∧ ∀ q, r.k q → Q r.ex r.ρ r.hl → Tri P N n0 c ρ hl Q
  | .skip, n0, ρ, hl, ans, k, r, Q, hk, h => by cases h; exact ⟨Grow.refl hk, fun _ _ h => Tri.skip h⟩
  | .exit i, n0, ρ, hl, ans, k, r, Q, hk, h => by cases h; exact ⟨Grow.refl hk, fun _ _ h => Tri.exit h⟩
  | .ret, n0, ρ, hl, ans, k, r, Q, hk, h => by cases h; exact ⟨Grow.refl hk, fun _ _ h => Tri.ret h⟩
  | .loop a, n0, ρ, hl, ans, k, r, Q, hk, h => by cases h
  | .region l up, n0, ρ, hl, ans, k, r, Q, hk, h => by
    unfold runC at h
    split at h
    · rename_i ρ' hl' fs' ans' k' h1
      split at h
      · rename_i ho
        cases h
        obtain ⟨g1, g2⟩ := runA_ok (N := N) (K := fun ρ' hl' fs => ordU up fs = true ∧ Q .normal ρ' hl') hk h1
        exact ⟨g1, fun q hq hQ => Tri.gs (g2 q hq ⟨ho, hQ⟩)⟩
      · cases h
    · cases h
  | .seq a b, n0, ρ, hl, ans, k, r, Q, hk, h => by
    unfold runC at h
    split at h
    · rename_i ρ' hl' ans' k' h1
      obtain ⟨g1, g2⟩ := runC_ok (n0 := n0) (Q := thenQ (fun ρ' hl' => Tri P N n0 b ρ' hl' Q) Q) hk h1
      obtain ⟨g3, g4⟩ := runC_ok (n0 := n0) (Q := Q) g1.one h
      exact ⟨g1.trans g3, fun q hq hQ => let ⟨q', h'⟩ := g3.all q hq; Tri.seq (g2 q' h' (g4 q hq hQ))⟩
    · rename_i s hs h1
      cases h
      obtain ⟨g1, g2⟩ := runC_ok (n0 := n0) (Q := thenQ (fun ρ' hl' => Tri P N n0 b ρ' hl' Q) Q) hk h1
      refine ⟨g1, fun q hq hQ => Tri.seq (g2 q hq ?_)⟩
      obtain ⟨ex, ρ', hl', ans', k'⟩ := r
      cases ex with
      | normal => exact absurd rfl (hs ρ' hl' ans' k')
      | _ => exact hQ
    · cases h
  | .cond c a b, n0, ρ, hl, ans, k, r, Q, hk, h => by
    unfold runC at h
    split at h
    · rename_i v hv
      split at h
      · rename_i w ans' _
        by_cases hvw : v = w
        case neg =>
          rw [setX_k] at h
          cases w with
          | true =>
            obtain ⟨g1, g2⟩ := runC_ok (n0 := n0) (Q := Q) (k := fun q => k (v = true ∧ q)) (fun q hq => (hk _ hq).2) h
            exact ⟨g1.and, fun q hq => absurd (g1.get hk hq) hvw⟩
          | false =>
            obtain ⟨g1, g2⟩ := runC_ok (n0 := n0) (Q := Q) (k := fun q => k (v = false ∧ q)) (fun q hq => (hk _ hq).2) h
            exact ⟨g1.and, fun q hq => absurd (g1.get hk hq) hvw⟩
        rw [setX_id (by rw [hv, hvw])] at h
        split at h
        · obtain ⟨g1, g2⟩ := runC_ok (n0 := n0) (Q := Q) (k := fun q => k (v = true ∧ q)) (fun q hq => (hk _ hq).2) h
          refine ⟨g1.and, fun q hq hQ => ?_⟩
          have : v = true := g1.get hk hq
          exact Tri.cond hv (fun _ => g2 q hq hQ) (fun e => by rw [this] at e; cases e)
        · obtain ⟨g1, g2⟩ := runC_ok (n0 := n0) (Q := Q) (k := fun q => k (v = false ∧ q)) (fun q hq => (hk _ hq).2) h
          refine ⟨g1.and, fun q hq hQ => ?_⟩
          have : v = false := g1.get hk hq
          exact Tri.cond hv (fun e => by rw [this] at e; cases e) (fun _ => g2 q hq hQ)
      · split at h
        · obtain ⟨g1, g2⟩ := runC_ok (n0 := n0) (Q := Q) hk h
          exact ⟨g1, fun q hq hQ => Tri.cond hv (fun _ => g2 q hq hQ) (fun e => by cases e)⟩
        · obtain ⟨g1, g2⟩ := runC_ok (n0 := n0) (Q := Q) hk h
          exact ⟨g1, fun q hq hQ => Tri.cond hv (fun e => by cases e) (fun _ => g2 q hq hQ)⟩
    · cases h
  | .block i a, n0, ρ, hl, ans, k, r, Q, hk, h => by
    unfold runC at h
    split at h
    · rename_i j ρ' hl' ans' k' h1
      obtain ⟨g1, g2⟩ := runC_ok (n0 := n0) (Q := blockQ i Q) hk h1
      split at h
      · rename_i hj
        cases h
        refine ⟨g1, fun q hq hQ => Tri.block (g2 q hq ?_)⟩
        simp only [blockQ]
        rw [if_pos (Nat.eq_of_beq_eq_true hj)]
        exact hQ
      · rename_i hj
        cases h
        refine ⟨g1, fun q hq hQ => Tri.block (g2 q hq ?_)⟩
        simp only [blockQ]
        rw [if_neg (Nat.ne_of_beq_eq_false hj)]
        exact hQ
    · rename_i s hs h1
      cases h
      obtain ⟨g1, g2⟩ := runC_ok (n0 := n0) (Q := blockQ i Q) hk h1
      refine ⟨g1, fun q hq hQ => Tri.block (g2 q hq ?_)⟩
      obtain ⟨ex, ρ', hl', ans', k'⟩ := r
      cases ex with
      | exit j => exact absurd rfl (hs j ρ' hl' ans' k')
      | _ => exact hQ
    · cases h
/-- A piece of code without loops, at once. -/
theorem Tri.go {c : AC} {n0 : Nat} {ρ ρ' : Env} {hl hl' : List Ob} {Q : Exit → Env → List Ob → Prop} (ans : List Ans) {ex : Exit} {k : Prop → Prop} (h : runC P c ρ hl ans (fun q => q) = some ⟨ex, ρ', hl', [], k⟩) (hp : k True) (hQ : Q ex ρ' hl') : Tri P N n0 c ρ hl Q :=
  (runC_ok (fun _ h => h) h).2 True hp hQ
/-- A function without loops, on one of its roads. -/
theorem FnOk.go {f : FuncId} {np n0 : Nat} {body : AC} {res : List AR} {vs : List V} {ρ ρ' : Env} {hs hs' hl' : List Ob} {r : V} (hf : FnAt P f ⟨np, N, body, res⟩) (ans : List Ans) (σ τ : List Nat) {ex : Exit} {k : Prop → Prop} {p : Prop} {r' : V} {hs'' : List Ob} (hlen : vs.length = np) (hn : fN hs.length some = some n0) (hρ : fEnv 0 vs some = some ρ)
    (h : runC P body ρ hs ans (fun q => q) = some ⟨ex, ρ', hl', [], k⟩) (hex : ex = .ret) (hfin : finR res σ τ n0 ρ' hl' = some (p, r', hs'')) (hh : hs'' = hs') (hp : k True) (hp2 : p) (hr : V.le r' r) : FnOk P f vs hs r hs' :=
  FnOk.start hf hlen hn hρ (Tri.go ans h hp (by subst hex; exact RetQ.of σ τ hfin hp2 hr hh))
/-- .. and of the objects less is told. -/
theorem FnOk.gol {f : FuncId} {np n0 : Nat} {body : AC} {res : List AR} {vs : List V} {ρ ρ' : Env} {hs hs' hl' : List Ob} {r : V} (hf : FnAt P f ⟨np, N, body, res⟩) (ans : List Ans) (σ τ : List Nat) {ex : Exit} {k : Prop → Prop} {p : Prop} {r' : V} {hs'' : List Ob} (hlen : vs.length = np) (hn : fN hs.length some = some n0) (hρ : fEnv 0 vs some = some ρ)
    (h : runC P body ρ hs ans (fun q => q) = some ⟨ex, ρ', hl', [], k⟩) (hex : ex = .ret) (hfin : finR res σ τ n0 ρ' hl' = some (p, r', hs'')) (hp : k True) (hp2 : p) (hr : V.le r' r) (hh : LeOs hs'' hs') : FnOk P f vs hs r hs' :=
  FnOk.start hf hlen hn hρ (Tri.go ans h hp (by subst hex; exact RetQ.le σ τ hfin hp2 hr hh))
end
def keepK {β : Type} (ρ : Env) : List Nat → (Env → Option β) → Option β
  | [], k => k []
  | t :: ts, k => match get ρ t with
    | some v => fV v fun v => keepK ρ ts fun r => k ((t, v) :: r)
    | none => none
theorem keepK_eq {β : Type} (ρ : Env) : ∀ (l : List Nat) (k : Env → Option β), keepK ρ l k = (keepE ρ l).bind k
  | [], k => rfl
  | t :: ts, k => by
    unfold keepK keepE
    cases hg : get ρ t with
    | none => rfl
    | some v =>
      simp only [fV_eq]
      rw [keepK_eq ρ ts]
      cases keepE ρ ts <;> rfl
/-- What the temporaries hold, when more has been done. -/
theorem keep_of {ρ ρ1 ρ2 : Env} {live : List Nat} (h : keepK ρ live some = some ρ1) (e : ρ1 = ρ2) : keepE ρ live = some ρ2 := by
  rw [keepK_eq] at h
  cases hk : keepE ρ live with
  | none => rw [hk] at h; cases h
  | some r => rw [hk] at h; cases h; rw [e]
/-- Once more round. -/
theorem again {J : Nat → Env → List Ob → Prop} {Q : Exit → Env → List Ob → Prop} {n : Nat} {ρ : Env} {hl : List Ob} (m : Nat) (hm : m < n) (h : J m ρ hl) : thenQ (fun ρ hl => ∃ m, m < n ∧ J m ρ hl) Q .normal ρ hl := ⟨m, hm, h⟩
/-- Out of the loop. -/
theorem outQ {K : Env → List Ob → Prop} {Q : Exit → Env → List Ob → Prop} {id : Nat} {ρ : Env} {hl : List Ob} (h : Q .normal ρ hl) : thenQ K (blockQ id Q) (.exit id) ρ hl := by
  simp only [thenQ, blockQ, if_pos]; exact h
theorem V.le.of {a b : V} (h : a = b) : V.le a b := h ▸ .refl a
theorem V.le.vB {a b : Bool} (h : a = true ↔ b = true) : V.le (Go.Proofs.Ytheaeddojcebjaa.vB a) (Go.Proofs.Ytheaeddojcebjaa.vB b) := .of (by rw [Bool.eq_iff_iff.2 h])
end Go.Proofs.Ytheaeddojcebjaa
