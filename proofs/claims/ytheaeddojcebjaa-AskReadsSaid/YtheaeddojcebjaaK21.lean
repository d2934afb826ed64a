/-
  Rules for use: whole runs of operations at once, calls, guards.
-/
import Derived.Test.YtheaeddojcebjaaK20
set_option linter.unusedVariables false
set_option linter.unusedSimpArgs false
namespace Go.Proofs.Ytheaeddojcebjaa
open Go.RowKit

section
variable {β : Type}
def fGo : List Nat → Nat → Nat → (Nat → β) → β
  | x :: _, 0, _, k => k x
  | _ :: l, n + 1, m, k => fGo l n m k
  | [], _, m, k => k m
def fTab : List Nat := [0, 1, 2, 3, 4, 5, 6, 7, 8, 9, 10, 11, 12, 13, 14, 15, 16, 17, 18, 19, 20, 21, 22, 23, 24, 25, 26, 27, 28, 29, 30, 31, 32, 33, 34, 35, 36, 37, 38, 39, 40, 41, 42, 43, 44, 45, 46, 47, 48, 49, 50, 51, 52, 53, 54, 55, 56, 57, 58, 59, 60, 61, 62, 63]
/-- A number as it is written out. -/
def fN (n : Nat) (k : Nat → β) : β := fGo fTab n n k
theorem fGo_eq : ∀ (l : List Nat) (n m : Nat) (k : Nat → β), (∀ x, l[n]? = some x → x = m) → fGo l n m k = k m
  | x :: l, 0, m, k, h => by simp [fGo, h x rfl]
  | _ :: l, n + 1, m, k, h => by unfold fGo; exact fGo_eq l n m k (fun x hx => h x (by simpa using hx))
  | [], n, m, k, h => by cases n <;> rfl
theorem fN_eq (n : Nat) (k : Nat → β) : fN n k = k n := fGo_eq _ _ _ _ fun x hx => by
  have hl : n < 64 := (List.getElem?_eq_some_iff.1 hx).1
  have : fTab = List.range 64 := by decide
  rw [this, List.getElem?_range hl] at hx
  cases hx; rfl
def fNs : List Nat → (List Nat → β) → β
  | [], k => k []
  | n :: l, k => fN n fun n => fNs l fun l => k (n :: l)
theorem fNs_eq : ∀ (l : List Nat) (k : List Nat → β), fNs l k = k l
  | [], k => rfl
  | n :: l, k => by unfold fNs; rw [fN_eq, fNs_eq l]
def fD : D → (D → β) → β
  | .int i n, k => k (.int i n)
  | .bool b, k => k (.bool b)
  | .str s, k => k (.str s)
  | .nil, k => k .nil
  | .ls sz n r, k => k (.ls sz n r)
theorem fD_eq (d : D) (k : D → β) : fD d k = k d := by cases d <;> rfl
def fC : C → (C → β) → β
  | .t d, k => fD d fun d => k (.t d)
  | .nilp, k => k .nilp
  | .ptr i o, k => fN i fun i => fN o fun o => k (.ptr i o)
  | .sl i o n, k => fN i fun i => k (.sl i o n)
  | .el i o n, k => fN i fun i => k (.el i o n)
  | .im d, k => k (.im d)
  | .mp i, k => fN i fun i => k (.mp i)
  | .fn f cs, k => k (.fn f cs)
theorem fC_eq (c : C) (k : C → β) : fC c k = k c := by cases c <;> simp [fC, fD_eq, fN_eq]
def fCs : List C → (List C → β) → β
  | [], k => k []
  | c :: l, k => fC c fun c => fCs l fun l => k (c :: l)
theorem fCs_eq : ∀ (l : List C) (k : List C → β), fCs l k = k l
  | [], k => rfl
  | n :: l, k => by unfold fCs; rw [fC_eq, fCs_eq l]
def fE : E → (E → β) → β
  | .c c, k => fC c fun c => k (.c c)
  | .agg cs, k => fCs cs fun cs => k (.agg cs)
theorem fE_eq (c : E) (k : E → β) : fE c k = k c := by cases c <;> simp [fE, fC_eq, fCs_eq]
def fEs : List E → (List E → β) → β
  | [], k => k []
  | c :: l, k => fE c fun c => fEs l fun l => k (c :: l)
theorem fEs_eq : ∀ (l : List E) (k : List E → β), fEs l k = k l
  | [], k => rfl
  | n :: l, k => by unfold fEs; rw [fE_eq, fEs_eq l]
def fV : V → (V → β) → β
  | .e e, k => fE e fun e => k (.e e)
  | .tup es, k => fEs es fun es => k (.tup es)
  | .u, k => k .u
theorem fV_eq (c : V) (k : V → β) : fV c k = k c := by cases c <;> simp [fV, fE_eq, fEs_eq]
def fO : Ob → (Ob → β) → β
  | .dead, k => k .dead
  | .box cs, k => fCs cs fun cs => k (.box cs)
  | .arr sz rows, k => k (.arr sz rows)
  | .mp es, k => k (.mp es)
  | .opq R, k => k (.opq R)
theorem fO_eq (c : Ob) (k : Ob → β) : fO c k = k c := by cases c <;> simp [fO, fCs_eq]
def fOs : List Ob → (List Ob → β) → β
  | [], k => k []
  | c :: l, k => fO c fun c => fOs l fun l => k (c :: l)
theorem fOs_eq : ∀ (l : List Ob) (k : List Ob → β), fOs l k = k l
  | [], k => rfl
  | n :: l, k => by unfold fOs; rw [fO_eq, fOs_eq l]
def fPt (d : Option Nat) (v : V) (ρ : Env) (k : Env → β) : β := match d with
  | none => k ρ
  | some t => fV v fun v => k ((t, v) :: ρ)
theorem fPt_eq (d : Option Nat) (v : V) (ρ : Env) (k : Env → β) : fPt d v ρ k = k (pt d v ρ) := by cases d <;> simp [fPt, pt, fV_eq]
def fFt (s : Res) (base : Nat) (k : Ft → β) : β := fNs s.rd fun r => fNs s.ids fun i => fN base fun b => fN s.nw.length fun n => k ⟨r, i, b, n⟩
theorem fFt_eq (s : Res) (base : Nat) (k : Ft → β) : fFt s base k = k (s.ft base) := by simp [fFt, fN_eq, fNs_eq, Res.ft]
/-- The objects behind a step. -/
def fAp (s : Res) (hl : List Ob) (k : List Ob → β) : β := match s.wr, s.nw with
  | [], [] => k hl
  | wr, nw => fOs (setAll hl wr ++ nw) k
theorem fAp_eq (s : Res) (hl : List Ob) (k : List Ob → β) : fAp s hl k = k (appL s hl) := by
  unfold fAp
  split
  · rename_i h1 h2; simp [appL, h1, h2, setAll]
  · rw [fOs_eq]; rfl
end
/-- Sums and the like of Go's int that fit. -/
def exact (op : BinOp) : V → V → Option (Prop × V)
  | .e (.c (.t (.int .i64 a))), .e (.c (.t (.int .i64 b))) => match op with
    | .add => some (-9223372036854775808 ≤ a + b ∧ a + b ≤ 9223372036854775807, vI .i64 (a + b))
    | .sub => some (-9223372036854775808 ≤ a - b ∧ a - b ≤ 9223372036854775807, vI .i64 (a - b))
    | .mul => some (-9223372036854775808 ≤ a * b ∧ a * b ≤ 9223372036854775807, vI .i64 (a * b))
    | op => bin op (vI .i64 a) (vI .i64 b)
  | x, y => bin op x y
theorem exact_ok {op : BinOp} {v y x : V} {p : Prop} (h : exact op v y = some (p, x)) (hp : p) : ∃ q, bin op v y = some (q, x) ∧ q := by
  unfold exact at h
  split at h
  · split at h
    · cases h; exact ⟨True, by simp only [bin]; simp [IntWalk.i64_in _ hp], trivial⟩
    · cases h; exact ⟨True, by simp only [bin]; simp [IntWalk.i64_in _ hp], trivial⟩
    · cases h; exact ⟨True, by simp only [bin]; simp [IntWalk.i64_in _ hp], trivial⟩
    · exact ⟨p, h, hp⟩
  · exact ⟨p, h, hp⟩
def aopx (op : AOp) (ρ : Env) (h : List Ob) : PR :=
  match op with
  | .bin op x y => match ev ρ x, ev ρ y with
    | some x, some y => match exact op x y with
      | some (p, v) => some (p, { v := v })
      | none => none
    | _, _ => none
  | .conv .i64 x => match ev ρ x with
    | some (.e (.c (.t (.int _ n)))) => some (-9223372036854775808 ≤ n ∧ n ≤ 9223372036854775807, { v := vI .i64 n })
    | _ => none
  | op => aop op ρ h
theorem aopx_ok {op : AOp} {ρ : Env} {h : List Ob} {p : Prop} {s : Res} (ha : aopx op ρ h = some (p, s)) (hp : p) : ∃ q, aop op ρ h = some (q, s) ∧ q := by
  unfold aopx at ha
  split at ha
  · split at ha
    · rename_i x y e1 e2
      split at ha
      · rename_i p' v he
        cases ha
        obtain ⟨q, q1, q2⟩ := exact_ok he hp
        exact ⟨q, by simp only [aop, e1, e2, q1], q2⟩
      · cases ha
    · cases ha
  · split at ha
    · rename_i e1
      cases ha
      exact ⟨True, by simp only [aop, e1, ret]; simp [IntWalk.i64_in _ hp], trivial⟩
    · cases ha
  · exact ⟨p, ha, hp⟩
def idsB (hl : List Ob) (s : Res) : Bool := match s.wr with
  | [] => true
  | wr => (wr.map (·.1)).all fun i => Nat.blt i hl.length
theorem idsB_ok {hl : List Ob} {s : Res} (h : idsB hl s = true) : ∀ i ∈ s.ids, i < hl.length := by
  unfold idsB at h
  split at h
  · rename_i hw; intro i hi; simp [Res.ids, hw] at hi
  · intro i hi
    have := List.all_eq_true.1 h i hi
    simpa [Nat.blt_eq] using this
structure Rn where
  p : Prop
  rest : List AO
  ρ : Env
  hl : List Ob
  fs : List Ft
/-- The next n operations. -/
def runR (d : Bool) : Nat → List AO → Env → List Ob → List Ft → (Prop → Prop) → Option Rn
  | 0, os, ρ, hl, fs, c => some ⟨c True, os, ρ, hl, fs⟩
  | n + 1, [], ρ, hl, fs, c => some ⟨c True, [], ρ, hl, fs⟩
  | n + 1, o :: os, ρ, hl, fs, c => match grdB ρ o.grd with
    | some true => match aopx o.op ρ hl with
      | some (p, s) => match idsB hl s with
        | true => fPt o.dst s.v ρ fun ρ' => fAp s hl fun hl' => bif d then fFt s hl.length fun f => runR d n os ρ' hl' (fs ++ [f]) (fun q => c (p ∧ q)) else runR d n os ρ' hl' fs (fun q => c (p ∧ q))
        | false => none
      | none => none
    | some false => fPt o.dst .u ρ fun ρ' => bif d then fFt noRes hl.length fun f => runR d n os ρ' hl (fs ++ [f]) c else runR d n os ρ' hl fs c
    | none => none
section
variable {P : Program} {N : Nat} {o : AO} {os : List AO} {ρ : Env} {hl : List Ob} {fs : List Ft} {K : Env → List Ob → List Ft → Prop}
theorem runR_ok : ∀ (n : Nat) (os : List AO) (ρ : Env) (hl : List Ob) (fs : List Ft) (c : Prop → Prop) (hc : ∀ q, c q → q) {r : Rn}, runR true n os ρ hl fs c = some r → r.p → Rg P N r.rest r.ρ r.hl r.fs K → Rg P N os ρ hl fs K
  | 0, os, ρ, hl, fs, c, hc, r, h, hp, hk => by cases h; exact hk
  | n + 1, [], ρ, hl, fs, c, hc, r, h, hp, hk => by cases h; exact hk
  | n + 1, o :: os, ρ, hl, fs, c, hc, r, h, hp, hk => by
    unfold runR at h
    split at h
    · rename_i hg
      split at h
      · rename_i p s ha
        split at h
        · rename_i hi
          simp only [fPt_eq, fAp_eq, fFt_eq, cond_true] at h
          have hpre : ∀ (n : Nat) (os : List AO) (ρ : Env) (hl : List Ob) (fs : List Ft) (c : Prop → Prop) (X : Prop), (∀ q, c q → X) → ∀ {r : Rn}, runR true n os ρ hl fs c = some r → r.p → X := by
            intro n
            induction n with
            | zero => intro os ρ hl fs c X hX r h hp; cases h; exact hX _ hp
            | succ n ih =>
              intro os ρ hl fs c X hX r h hp
              cases os with
              | nil => cases h; exact hX _ hp
              | cons o os =>
                unfold runR at h
                split at h
                · split at h
                  · split at h
                    · simp only [fPt_eq, fAp_eq, fFt_eq, cond_true] at h
                      exact ih _ _ _ _ _ X (fun q hq => hX _ hq) h hp
                    · cases h
                  · cases h
                · simp only [fPt_eq, fFt_eq, cond_true] at h
                  exact ih _ _ _ _ _ X hX h hp
                · cases h
          obtain ⟨q, q1, q2⟩ := aopx_ok ha (hpre n os _ _ _ _ p (fun q hq => (hc _ hq).1) h hp)
          exact .inr ⟨hg, s, ⟨idsB_ok hi, fun o' ho => aop_ok ho q1 q2⟩, runR_ok n os _ _ _ _ (fun q hq => (hc _ hq).2) h hp hk⟩
        · cases h
      · cases h
    · rename_i hg
      simp only [fPt_eq, fFt_eq, cond_true] at h
      exact .inl ⟨hg, runR_ok n os _ _ _ c hc h hp hk⟩
    · cases h
/-- The next n operations, in any order. -/
theorem Rg.run (n : Nat) {p : Prop} {rest : List AO} {ρ' : Env} {hl' : List Ob} {fs' : List Ft} (h : runR true n os ρ hl fs (fun q => q) = some ⟨p, rest, ρ', hl', fs'⟩) (hp : p) (hk : Rg P N rest ρ' hl' fs' K) : Rg P N os ρ hl fs K :=
  runR_ok n os ρ hl fs _ (fun _ h => h) h hp hk
/-- One operation that was shown by hand. -/
theorem Rg.one (s : Res) {ρ' : Env} {hl' : List Ob} {f : Ft} (hg : o.grd = none) (ho : OpS P N o.op ρ hl s) (h1 : ∀ {β : Type} (k : Env → β), fPt o.dst s.v ρ k = k ρ') (h2 : ∀ {β : Type} (k : List Ob → β), fAp s hl k = k hl') (h3 : ∀ {β : Type} (k : Ft → β), fFt s hl.length k = k f)
    (hk : Rg P N os ρ' hl' (fs ++ [f]) K) : Rg P N (o :: os) ρ hl fs K := by
  have e1 := h1 (fun x => x)
  have e2 := h2 (fun x => x)
  have e3 := h3 (fun x => x)
  rw [fPt_eq] at e1
  rw [fAp_eq] at e2
  rw [fFt_eq] at e3
  exact .inr ⟨by rw [hg]; rfl, s, ho, by rw [e1, e2, e3]; exact hk⟩
theorem trOp_call {o : Oper} {f : FuncId} {axs : List AX} (h : trOp P o = some (.call f axs)) : ∃ c, o.op = .call c ∧ c.callee = .value (.func f) ∧ listM trX c.args.toList = some axs := by
  cases hop : o.op with
  | call c =>
    simp only [trOp, hop] at h
    split at h
    · cases h
    · rename_i args hargs
      split at h
      · rename_i g hcl
        split at h
        · split at h
          · cases h; exact ⟨c, rfl, hcl, hargs⟩
          · cases h
        · cases h
      · obtain ⟨x, _, hx⟩ := Option.map_eq_some_iff.1 h; cases hx
      all_goals try (cases h; done)
      all_goals try (split at h <;> try (cases h; done))
      all_goals try (split at h <;> try (cases h; done))
      all_goals try (split at h <;> try (cases h; done))
      all_goals try (split at h <;> try (cases h; done))
      all_goals try (split at h <;> try (cases h; done))
  | _ =>
    simp only [trOp, hop] at h
    try (split at h <;> try contradiction)
    all_goals try (cases h; done)
    all_goals try (obtain ⟨x, _, hx⟩ := Option.map_eq_some_iff.1 h; cases hx; done)
    all_goals try (split at h <;> try (cases h; done))
    all_goals try (obtain ⟨x, _, hx⟩ := Option.map_eq_some_iff.1 h; cases hx; done)
    all_goals try (split at h <;> try (cases h; done))
    all_goals try (obtain ⟨x, _, hx⟩ := Option.map_eq_some_iff.1 h; cases hx; done)
    all_goals try (split at h <;> try (cases h; done))
    all_goals try (obtain ⟨x, _, hx⟩ := Option.map_eq_some_iff.1 h; cases hx; done)
    all_goals try (split at h <;> try (cases h; done))
    all_goals try (obtain ⟨x, _, hx⟩ := Option.map_eq_some_iff.1 h; cases hx; done)
    all_goals try (split at h <;> try (cases h; done))
    all_goals try (obtain ⟨x, _, hx⟩ := Option.map_eq_some_iff.1 h; cases hx; done)
theorem trOp_callv {o : Oper} {ax : AX} {axs : List AX} (h : trOp P o = some (.callv ax axs)) : ∃ c x, o.op = .call c ∧ c.callee = .value x ∧ trX x = some ax ∧ listM trX c.args.toList = some axs := by
  cases hop : o.op with
  | call c =>
    simp only [trOp, hop] at h
    split at h
    · cases h
    · rename_i args hargs
      split at h
      · rename_i g hcl
        split at h
        · split at h
          · cases h
          · cases h
        · cases h
      · rename_i x _ hcl
        obtain ⟨ax', hx, he⟩ := Option.map_eq_some_iff.1 h
        cases he
        exact ⟨c, x, rfl, hcl, hx, hargs⟩
      all_goals try (cases h; done)
      all_goals try (split at h <;> try (cases h; done))
      all_goals try (split at h <;> try (cases h; done))
      all_goals try (split at h <;> try (cases h; done))
      all_goals try (split at h <;> try (cases h; done))
      all_goals try (split at h <;> try (cases h; done))
  | _ =>
    simp only [trOp, hop] at h
    all_goals try (split at h <;> try contradiction)
    all_goals try (cases h; done)
    all_goals try (obtain ⟨x, _, hx⟩ := Option.map_eq_some_iff.1 h; cases hx; done)
    all_goals try (split at h <;> try (cases h; done))
    all_goals try (obtain ⟨x, _, hx⟩ := Option.map_eq_some_iff.1 h; cases hx; done)
    all_goals try (split at h <;> try (cases h; done))
    all_goals try (obtain ⟨x, _, hx⟩ := Option.map_eq_some_iff.1 h; cases hx; done)
    all_goals try (split at h <;> try (cases h; done))
    all_goals try (obtain ⟨x, _, hx⟩ := Option.map_eq_some_iff.1 h; cases hx; done)
    all_goals try (split at h <;> try (cases h; done))
    all_goals try (obtain ⟨x, _, hx⟩ := Option.map_eq_some_iff.1 h; cases hx; done)
    all_goals try (split at h <;> try (cases h; done))
    all_goals try (obtain ⟨x, _, hx⟩ := Option.map_eq_some_iff.1 h; cases hx; done)
    all_goals try (split at h <;> try (cases h; done))
    all_goals try (obtain ⟨x, _, hx⟩ := Option.map_eq_some_iff.1 h; cases hx; done)
theorem trOp_idx {o : Oper} {sz : Nat} {ax ai : AX} (h : trOp P o = some (.idxAddr sz ax ai)) : ∃ t e x i, o.op = .indexAddr t x i ∧ trX x = some ax ∧ trX i = some ai ∧ P.underlying t = some (.slice e) ∧ sizeB P e = some sz := by
  cases hop : o.op with
  | indexAddr t x i =>
    simp only [trOp, hop] at h
    split at h
    · rename_i e ax' ai' h1 h2 h3
      split at h
      · rename_i sz' h4
        split at h
        · cases h; exact ⟨t, e, x, i, rfl, h2, h3, h1, h4⟩
        · cases h
      · cases h
    · obtain ⟨y, _, hy⟩ := Option.map_eq_some_iff.1 h; cases hy
    · cases h
  | _ =>
    simp only [trOp, hop] at h
    all_goals try (split at h <;> try contradiction)
    all_goals try (cases h; done)
    all_goals try (obtain ⟨x, _, hx⟩ := Option.map_eq_some_iff.1 h; cases hx; done)
    all_goals try (split at h <;> try (cases h; done))
    all_goals try (obtain ⟨x, _, hx⟩ := Option.map_eq_some_iff.1 h; cases hx; done)
    all_goals try (split at h <;> try (cases h; done))
    all_goals try (obtain ⟨x, _, hx⟩ := Option.map_eq_some_iff.1 h; cases hx; done)
    all_goals try (split at h <;> try (cases h; done))
    all_goals try (obtain ⟨x, _, hx⟩ := Option.map_eq_some_iff.1 h; cases hx; done)
    all_goals try (split at h <;> try (cases h; done))
    all_goals try (obtain ⟨x, _, hx⟩ := Option.map_eq_some_iff.1 h; cases hx; done)
    all_goals try (split at h <;> try (cases h; done))
    all_goals try (obtain ⟨x, _, hx⟩ := Option.map_eq_some_iff.1 h; cases hx; done)
    all_goals try (split at h <;> try (cases h; done))
    all_goals try (obtain ⟨x, _, hx⟩ := Option.map_eq_some_iff.1 h; cases hx; done)
theorem trOp_load {o : Oper} {n : Option Nat} {ax : AX} (h : trOp P o = some (.load n ax)) : ∃ t x, o.op = .load t x ∧ trX x = some ax ∧ cellsB P t = some n := by
  cases hop : o.op with
  | load t x =>
    simp only [trOp, hop] at h
    split at h
    · rename_i n' ax' h1 h2
      cases h; exact ⟨t, x, rfl, h2, h1⟩
    · cases h
  | _ =>
    simp only [trOp, hop] at h
    all_goals try (split at h <;> try contradiction)
    all_goals try (cases h; done)
    all_goals try (obtain ⟨x, _, hx⟩ := Option.map_eq_some_iff.1 h; cases hx; done)
    all_goals try (split at h <;> try (cases h; done))
    all_goals try (obtain ⟨x, _, hx⟩ := Option.map_eq_some_iff.1 h; cases hx; done)
    all_goals try (split at h <;> try (cases h; done))
    all_goals try (obtain ⟨x, _, hx⟩ := Option.map_eq_some_iff.1 h; cases hx; done)
    all_goals try (split at h <;> try (cases h; done))
    all_goals try (obtain ⟨x, _, hx⟩ := Option.map_eq_some_iff.1 h; cases hx; done)
    all_goals try (split at h <;> try (cases h; done))
    all_goals try (obtain ⟨x, _, hx⟩ := Option.map_eq_some_iff.1 h; cases hx; done)
    all_goals try (split at h <;> try (cases h; done))
    all_goals try (obtain ⟨x, _, hx⟩ := Option.map_eq_some_iff.1 h; cases hx; done)
    all_goals try (split at h <;> try (cases h; done))
    all_goals try (obtain ⟨x, _, hx⟩ := Option.map_eq_some_iff.1 h; cases hx; done)
theorem trOp_bstr {o : Oper} {ax : AX} (h : trOp P o = some (.bstr ax)) : ∃ s t e x, o.op = .convert s t x ∧ trX x = some ax ∧ P.underlying s = some (.slice e) ∧ P.underlying t = some .string ∧ P.underlying e = some (.int .u8) := by
  cases hop : o.op with
  | convert a t x =>
    simp only [trOp, hop] at h
    split at h
    · cases h
    · cases h
    · rename_i ax' e h1 h2 h3
      split at h
      · rename_i h4
        cases h; exact ⟨a, t, e, x, rfl, h1, h2, h3, h4⟩
      · cases h
    · cases h
  | _ =>
    simp only [trOp, hop] at h
    all_goals try (split at h <;> try contradiction)
    all_goals try (cases h; done)
    all_goals try (obtain ⟨x, _, hx⟩ := Option.map_eq_some_iff.1 h; cases hx; done)
    all_goals try (split at h <;> try (cases h; done))
    all_goals try (obtain ⟨x, _, hx⟩ := Option.map_eq_some_iff.1 h; cases hx; done)
    all_goals try (split at h <;> try (cases h; done))
    all_goals try (obtain ⟨x, _, hx⟩ := Option.map_eq_some_iff.1 h; cases hx; done)
    all_goals try (split at h <;> try (cases h; done))
    all_goals try (obtain ⟨x, _, hx⟩ := Option.map_eq_some_iff.1 h; cases hx; done)
    all_goals try (split at h <;> try (cases h; done))
    all_goals try (obtain ⟨x, _, hx⟩ := Option.map_eq_some_iff.1 h; cases hx; done)
    all_goals try (split at h <;> try (cases h; done))
    all_goals try (obtain ⟨x, _, hx⟩ := Option.map_eq_some_iff.1 h; cases hx; done)
    all_goals try (split at h <;> try (cases h; done))
    all_goals try (obtain ⟨x, _, hx⟩ := Option.map_eq_some_iff.1 h; cases hx; done)
theorem OpS.call {f : FuncId} {axs : List AX} {avs vs : List V} (σ τ : List Nat) {hs hs' : List Ob} {r : V} (hev : evs ρ axs = some avs) (hbv : listM (V.bk σ τ hl) avs = some vs) {pv : Prop} (hvw : vwVs σ τ hl avs True some = some pv) (hpv : pv) (hbo : listM (Ob.bk σ hl) (σ.map (hx hl)) = some hs)
    (hc : ((decide (σ ++ τ).Nodup && (σ ++ τ).all (fun i => decide (i < hl.length))) && (hs'.all Ob.ok && r.ok)) = true) (hfn : FnOk P f vs hs r hs') : OpS P N (.call f axs) ρ hl (callRes σ τ hl.length r hs') := by
  simp only [Bool.and_eq_true] at hc
  refine ⟨fun i hi => ?_, fun o ho => ?_⟩
  · have : i ∈ σ ++ τ := by
      simp only [callRes, Res.ids, List.map_append, wrs_ids, List.map_map] at hi
      simpa using hi
    simpa using List.all_eq_true.1 hc.1.2 i this
  · obtain ⟨c, c1, c2, c3⟩ := trOp_call ho
    exact s_call (callOf_fn c1 c2 c3 (fun y hy => mem_xts (by simpa [AOp.xs] using hy)) hev) hbv (vwVs_get hvw hpv) hbo hfn (by simpa using hc.1.1) hc.1.2 hc.2.1 hc.2.2
theorem OpS.callv {f : FuncId} {cs : List C} {x : AX} {axs : List AX} {avs vs : List V} (σ τ : List Nat) {hs hs' : List Ob} {r : V} (hf : ev ρ x = some (vC (.fn f cs))) (hev : evs ρ axs = some avs) (hbv : listM (V.bk σ τ hl) (avs ++ cs.map vC) = some vs) {pv : Prop} (hvw : vwVs σ τ hl (avs ++ cs.map vC) True some = some pv) (hpv : pv) (hbo : listM (Ob.bk σ hl) (σ.map (hx hl)) = some hs)
    (hc : ((decide (σ ++ τ).Nodup && (σ ++ τ).all (fun i => decide (i < hl.length))) && (hs'.all Ob.ok && r.ok)) = true) (hfn : FnOk P f vs hs r hs') : OpS P N (.callv x axs) ρ hl (callRes σ τ hl.length r hs') := by
  simp only [Bool.and_eq_true] at hc
  refine ⟨fun i hi => ?_, fun o ho => ?_⟩
  · have : i ∈ σ ++ τ := by
      simp only [callRes, Res.ids, List.map_append, wrs_ids, List.map_map] at hi
      simpa using hi
    simpa using List.all_eq_true.1 hc.1.2 i this
  · obtain ⟨c, x', c1, c2, c4, c3⟩ := trOp_callv ho
    exact s_call (callOf_val c1 c2 c4 (mem_xts (by simp [AOp.xs])) hf c3 (fun y hy => mem_xts (by simp [AOp.xs, hy])) hev) hbv (vwVs_get hvw hpv) hbo hfn (by simpa using hc.1.1) hc.1.2 hc.2.1 hc.2.2
theorem OpS.lend {f : FuncId} {axs : List AX} {avs vs : List V} (τ : List Nat) {r : V} (hev : evs ρ axs = some avs) (hbv : listM (V.bk [] τ hl) avs = some vs) {pv : Prop} (hvw : vwVs [] τ hl avs True some = some pv) (hpv : pv) (hp : r.plain = true) (hfn : FnOk P f vs [] r []) : OpS P N (.call f axs) ρ hl { v := r, rd := τ } := by
  refine ⟨fun i hi => by simp [Res.ids] at hi, fun o ho => ?_⟩
  obtain ⟨c, c1, c2, c3⟩ := trOp_call ho
  exact s_lend (callOf_fn c1 c2 c3 (fun y hy => mem_xts (by simpa [AOp.xs] using hy)) hev) hbv (vwVs_get hvw hpv) hfn hp
theorem OpS.opi {op : AOp} (r : List D) {p : Prop} {s : Res} (ha : aopi op ρ hl r = some (p, s)) (hp : p) : OpS P N op ρ hl s := by
  have hs : s.ids = [] := by
    unfold aopi at ha
    split at ha
    · split at ha <;> cases ha; rfl
    · split at ha
      · split at ha
        · split at ha
          · split at ha <;> cases ha; rfl
          · cases ha; rfl
        · cases ha
      · cases ha
    · cases ha
  refine ⟨fun i hi => (by rw [hs] at hi; cases hi), fun o ho => ?_⟩
  cases op with
  | idxAddr sz ax ai => obtain ⟨t, e, x, i, c1, c2, c3, c4, c5⟩ := trOp_idx ho; exact s_idxAddrI c1 c2 c3 (mem_xts (by simp [AOp.xs])) (mem_xts (by simp [AOp.xs])) c4 c5 ha hp
  | load n ax => obtain ⟨t, x, c1, c2, c3⟩ := trOp_load ho; exact s_loadI c1 c2 (mem_xts (by simp [AOp.xs])) c3 ha hp
  | _ => cases ha
theorem OpS.opb {ax : AX} (r : List Int) {p : Prop} {s : Res} (ha : aopb (.bstr ax) ρ hl r = some (p, s)) (hp : p) : OpS P N (.bstr ax) ρ hl s := by
  have hs : s.ids = [] := by
    simp only [aopb] at ha
    split at ha <;> cases ha
    rfl
  refine ⟨fun i hi => (by rw [hs] at hi; cases hi), fun o ho => ?_⟩
  obtain ⟨a, t, e, x, c1, c2, c3, c4, c5⟩ := trOp_bstr ho
  exact s_bstr c1 c2 (mem_xts (by simp [AOp.xs])) c3 c4 c5 ha hp
end
end Go.Proofs.Ytheaeddojcebjaa
