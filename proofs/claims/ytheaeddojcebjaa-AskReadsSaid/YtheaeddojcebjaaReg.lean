/-
  Regions that draw their order, walked once in the order of the text: operations may make memory (old blocks stay): what they leave is told by a predicate in place of a value.
-/
import Derived.Test.YtheaeddojcebjaaBase
set_option linter.unusedVariables false
set_option linter.unusedSimpArgs false
namespace Go.Proofs.Ytheaeddojcebjaa
open Go.RowKit

/-- A world behind w₀: what was there is there, but for the blocks of F. -/
structure Lat (F : Nat → Prop) (w₀ : World) where
  w : World
  keeps : Keeps F w₀ w
abbrev Rel := Value → World → Prop
/-- What holds, holds on, whatever is made, and whatever becomes of the blocks of F. -/
def Grows (F : Nat → Prop) (g : Rel) : Prop := ∀ v W W', Keeps F W W' → g v W → g v W'
def LGrows (L : World → Prop) : Prop := ∀ W W', Keeps Nope W W' → L W → L W'
theorem Keeps.widen {F : Nat → Prop} {W W' : World} (h : Keeps Nope W W') : Keeps F W W' := h.mono (fun _ _ f => f.elim)

def aftersOf (ops : Array Oper) (i : Nat) : List Nat :=
  match ops[i]? with
  | some o => (o.after.toList.filter (fun e => Region.binds .any e)).map (·.on)
  | none => []
def downTo (ops : Array Oper) : Nat → List Nat → List Nat
  | 0, s => s
  | k + 1, s => downTo ops k (if s.contains k then s ++ aftersOf ops k else s)
def upon (ops : Array Oper) (i : Nat) : List Nat := downTo ops i (aftersOf ops i)
def dstOf (ops : Array Oper) (i : Nat) : Option Tmp := (ops[i]?).bind (·.dst)
def looksOf (ops : Array Oper) (i : Nat) : List Tmp := match ops[i]? with | some o => o.looksAt ops | none => []
def canon (n m : Nat) : Array Bool := (List.replicate n true ++ List.replicate (m - n) false).toArray
def relB (ops : Array Oper) (n N : Nat) (eff : List Nat) : Bool :=
  Region.noSelect ops && decide (n ≤ ops.size) &&
  (List.range n).all (fun i => (aftersOf ops i).all (fun j => decide (j < i))) &&
  (List.range n).all (fun i => match dstOf ops i with | some d => decide (d < N) && (List.range i).all (fun j => dstOf ops j != some d) | none => true) &&
  (List.range n).all (fun i => (looksOf ops i).all fun t => (List.range n).all fun j =>
      dstOf ops j != some t || (if j < i then (upon ops i).contains j else j == i || (upon ops j).contains i)) &&
  eff.all (fun j => decide (j < n) && eff.all (fun k => decide (k ≤ j) || (upon ops k).contains j)) &&
  (n == ops.size || Region.sinkB .any ops n && Region.chainB .any ops n) && Region.seqB .any ops (ops.size - n) n (canon n ops.size)

/-- The looked-at temporaries of which a predicate is told are any values that it lets in. -/
def bindSome (done : List (Tmp × Rel)) (W : World) : List Tmp → Act → (Act → Prop) → Prop
  | [], a, K => K a
  | t :: ts, a, K => match done.find? (fun p => p.1 == t) with
    | none => bindSome done W ts a K
    | some p => ∀ v, p.2 v W → bindSome done W ts (a.put (some t) v) K
def bindAll (W : World) : List (Tmp × Rel) → Act → (Act → Prop) → Prop
  | [], a, K => K a
  | p :: done, a, K => ∀ v, p.2 v W → bindAll W done (a.put (some p.1) v) K

/-- What an operation leaves: a value, or one of which a predicate is told. -/
inductive Spec where
  | ex (v : Value)
  | re (g : Rel)
def Spec.ok : Spec → Value → World → Prop
  | .ex v, u, _ => u = v
  | .re g, u, W => g u W
def Spec.grows (F : Nat → Prop) : Spec → Prop
  | .ex _ => True
  | .re g => Grows F g
def Spec.val : Spec → Value
  | .ex v => v
  | .re _ => undef
def Spec.push (d : Option Tmp) (done : List (Tmp × Rel)) : Spec → List (Tmp × Rel)
  | .ex _ => done
  | .re g => match d with | some t => (t, g) :: done | none => done
theorem Spec.ok_more {F : Nat → Prop} {s : Spec} (hs : s.grows F) {v : Value} {W W' : World} (hk : Keeps F W W') (h : s.ok v W) : s.ok v W' := by
  cases s with
  | ex u => exact h
  | re g => exact hs v W W' hk h
def SlotIs : Option Tmp → Act → Value → Prop
  | none, _, _ => True
  | some t, a, v => a.tmps[t]? = some v
def guardLooks (ops : Array Oper) (o : Oper) : List Tmp := match o.guard with | some (g, _) => ((ops[g]?).bind (·.dst)).toList | none => []
def clear (done : List (Tmp × Rel)) (ts : List Tmp) : Bool := ts.all (fun t => !(done.any (fun p => p.1 == t)))

def tsB (ops : Array Oper) (o : Oper) (done : List (Tmp × Rel)) (ts : List Tmp) : Bool :=
  (o.looksAt ops).all (fun t => !(done.any (fun p => p.1 == t)) || ts.contains t) && ts.all (fun t => (o.looksAt ops).contains t)
def wpRel (P : Program) (ops : Array Oper) (F : Nat → Prop) (w : World) (eff : List Nat) (Q : List (Tmp × Rel) → (World → Prop) → Act → Prop) : List Oper → Nat → List (Tmp × Rel) → (World → Prop) → Act → Prop
  | [], i, done, L, a => Q done L a
  | o :: rest, i, done, L, a =>
    clear done (guardLooks ops o) = true ∧
    ((Region.wanted o (yielded ops a.tmps) = false ∧ wpRel P ops F w eff Q rest (i + 1) done L (a.put o.dst undef)) ∨
     (Region.wanted o (yielded ops a.tmps) = true ∧
      ((eff.contains i = false ∧ ∃ a₁, clear done (o.looksAt ops) = true ∧ (∀ x : Lat F w, o.quiet P a (fun W' => W' = x.w) (fun a' => a' = a₁)) ∧ wpRel P ops F w eff Q rest (i + 1) done L a₁) ∨
       (eff.contains i = false ∧ ∃ (s : Spec) (ts : List Tmp), s.grows F ∧ tsB ops o done ts = true ∧
        (∀ x : Lat F w, bindSome done x.w ts a (fun a' => o.wp P a' x.w (fun a'' W' => ∃ v, a'' = a'.put o.dst v ∧ Keeps Nope x.w W' ∧ s.ok v W') (fun _ _ _ => False))) ∧
        wpRel P ops F w eff Q rest (i + 1) (s.push o.dst done) L (a.put o.dst s.val)) ∨
       (eff.contains i = true ∧ ∃ (s : Spec) (ts : List Tmp) (L' : World → Prop), s.grows F ∧ LGrows L' ∧ tsB ops o done ts = true ∧
        (∀ x : Lat F w, L x.w → bindSome done x.w ts a (fun a' => o.wp P a' x.w (fun a'' W' => ∃ v, a'' = a'.put o.dst v ∧ (Keeps F x.w W' ∧ L' W') ∧ s.ok v W') (fun _ _ _ => False))) ∧
        wpRel P ops F w eff Q rest (i + 1) (s.push o.dst done) L' (a.put o.dst s.val)))))

section
variable {P : Program} {ops : Array Oper} {F : Nat → Prop} {w : World} {eff : List Nat} {Q : List (Tmp × Rel) → (World → Prop) → Act → Prop} {o : Oper} {rest : List Oper} {i : Nat} {done : List (Tmp × Rel)} {L : World → Prop} {a : Act}
theorem rel_end {Q' : Exit → Act → World → Prop} {tl : List Oper} (h : ∀ x : Lat F w, L x.w → bindAll x.w done a (fun a'' => wpList P ops Q' tl a'' x.w)) :
    wpRel P ops F w eff (fun done L a' => ∀ x : Lat F w, L x.w → bindAll x.w done a' (fun a'' => wpList P ops Q' tl a'' x.w)) [] i done L a := h
/-- An operation of one value, that leaves the world alone. -/
theorem wpRel_step (hg : clear done (guardLooks ops o) = true) (hl : clear done (o.looksAt ops) = true) (hw : Region.wanted o (yielded ops a.tmps) = true) (he : eff.contains i = false) (a₁ : Act)
    (h : ∀ x : Lat F w, o.quiet P a (fun W' => W' = x.w) (fun a' => a' = a₁)) (hr : wpRel P ops F w eff Q rest (i + 1) done L a₁) : wpRel P ops F w eff Q (o :: rest) i done L a :=
  ⟨hg, .inr ⟨hw, .inl ⟨he, a₁, hl, h, hr⟩⟩⟩
theorem wpRel_skip (hg : clear done (guardLooks ops o) = true) (hw : Region.wanted o (yielded ops a.tmps) = false) (a₁ : Act) (ha : a.put o.dst undef = a₁)
    (h : wpRel P ops F w eff Q rest (i + 1) done L a₁) : wpRel P ops F w eff Q (o :: rest) i done L a :=
  ⟨hg, .inl ⟨hw, ha ▸ h⟩⟩
/-- An operation of which a predicate is told. -/
theorem wpRel_rel (ts : List Tmp) (g : Rel) (hg : clear done (guardLooks ops o) = true) (hts : tsB ops o done ts = true) (hw : Region.wanted o (yielded ops a.tmps) = true) (he : eff.contains i = false) (hs : Grows F g)
    (d : Tmp) (hd : o.dst = some d) (ha : a.put (some d) undef = a)
    (h : ∀ x : Lat F w, bindSome done x.w ts a (fun a' => o.wp P a' x.w (fun a'' W' => ∃ v, a'' = a'.put o.dst v ∧ Keeps Nope x.w W' ∧ g v W') (fun _ _ _ => False)))
    (hr : wpRel P ops F w eff Q rest (i + 1) ((d, g) :: done) L a) : wpRel P ops F w eff Q (o :: rest) i done L a :=
  ⟨hg, .inr ⟨hw, .inr (.inl ⟨he, .re g, ts, hs, hts, h, by simp only [Spec.push, Spec.val, hd]; rw [ha]; exact hr⟩)⟩⟩
/-- .. where the temporary held something. -/
theorem wpRel_relv (ts : List Tmp) (g : Rel) (hg : clear done (guardLooks ops o) = true) (hts : tsB ops o done ts = true) (hw : Region.wanted o (yielded ops a.tmps) = true) (he : eff.contains i = false) (hs : Grows F g)
    (d : Tmp) (hd : o.dst = some d) (a₁ : Act) (ha : a.put (some d) undef = a₁)
    (h : ∀ x : Lat F w, bindSome done x.w ts a (fun a' => o.wp P a' x.w (fun a'' W' => ∃ v, a'' = a'.put o.dst v ∧ Keeps Nope x.w W' ∧ g v W') (fun _ _ _ => False)))
    (hr : wpRel P ops F w eff Q rest (i + 1) ((d, g) :: done) L a₁) : wpRel P ops F w eff Q (o :: rest) i done L a :=
  ⟨hg, .inr ⟨hw, .inr (.inl ⟨he, .re g, ts, hs, hts, h, by simp only [Spec.push, Spec.val, hd]; rw [ha]; exact hr⟩)⟩⟩
/-- A copy of one of which a predicate is told. -/
theorem wpRel_copy (t d : Tmp) (g : Rel) (ho : o.op = .move (.tmp t) ∨ o.op = .assign (.tmp t)) (hg : clear done (guardLooks ops o) = true) (hts : tsB ops o done [t] = true) (hw : Region.wanted o (yielded ops a.tmps) = true) (he : eff.contains i = false)
    (hs : Grows F g) (hf : (done.find? (fun p => p.1 == t)).map (·.2) = some g) (hsz : t < a.tmps.size) (hd : o.dst = some d) (a₁ : Act) (ha : a.put (some d) undef = a₁)
    (hr : wpRel P ops F w eff Q rest (i + 1) ((d, g) :: done) L a₁) : wpRel P ops F w eff Q (o :: rest) i done L a := by
  refine wpRel_relv [t] g hg hts hw he hs d hd a₁ ha (fun x => ?_) hr
  cases hf' : done.find? (fun p => p.1 == t) with
  | none => rw [hf'] at hf; cases hf
  | some p =>
    rw [hf'] at hf
    simp only [Option.map_some, Option.some.injEq] at hf
    simp only [bindSome, hf', hf]
    intro v hv
    have e : (a.put (some t) v).eval (.tmp t) = v := by simp [Act.eval, Act.put, hsz]
    unfold Oper.wp execOp
    rcases ho with ho | ho <;>
    · simp only [ho, Sem.run_pure, Oper.upon, e]
      exact ⟨v, rfl, Keeps.refl _ _, hv⟩
/-- An operation of one value, that makes memory. -/
theorem wpRel_ex (ts : List Tmp) (v : Value) (hg : clear done (guardLooks ops o) = true) (hts : tsB ops o done ts = true) (hw : Region.wanted o (yielded ops a.tmps) = true) (he : eff.contains i = false)
    (a₁ : Act) (ha : a.put o.dst v = a₁)
    (h : ∀ x : Lat F w, bindSome done x.w ts a (fun a' => o.wp P a' x.w (fun a'' W' => ∃ u, a'' = a'.put o.dst u ∧ Keeps Nope x.w W' ∧ u = v) (fun _ _ _ => False)))
    (hr : wpRel P ops F w eff Q rest (i + 1) done L a₁) : wpRel P ops F w eff Q (o :: rest) i done L a :=
  ⟨hg, .inr ⟨hw, .inr (.inl ⟨he, .ex v, ts, trivial, hts, h, ha ▸ hr⟩)⟩⟩
/-- An operation that turns blocks of F; of a value. -/
theorem wpRel_eff (ts : List Tmp) (v : Value) (L' : World → Prop) (hL : LGrows L') (hg : clear done (guardLooks ops o) = true) (hts : tsB ops o done ts = true) (hw : Region.wanted o (yielded ops a.tmps) = true) (he : eff.contains i = true)
    (a₁ : Act) (ha : a.put o.dst v = a₁)
    (h : ∀ x : Lat F w, L x.w → bindSome done x.w ts a (fun a' => o.wp P a' x.w (fun a'' W' => ∃ u, a'' = a'.put o.dst u ∧ (Keeps F x.w W' ∧ L' W') ∧ u = v) (fun _ _ _ => False)))
    (hr : wpRel P ops F w eff Q rest (i + 1) done L' a₁) : wpRel P ops F w eff Q (o :: rest) i done L a :=
  ⟨hg, .inr ⟨hw, .inr (.inr ⟨he, .ex v, ts, L', trivial, hL, hts, h, ha ▸ hr⟩)⟩⟩
/-- .. of which a predicate is told. -/
theorem wpRel_effr (ts : List Tmp) (g : Rel) (L' : World → Prop) (hL : LGrows L') (hg : clear done (guardLooks ops o) = true) (hts : tsB ops o done ts = true) (hw : Region.wanted o (yielded ops a.tmps) = true) (he : eff.contains i = true) (hs : Grows F g)
    (d : Tmp) (hd : o.dst = some d) (a₁ : Act) (ha : a.put (some d) undef = a₁)
    (h : ∀ x : Lat F w, L x.w → bindSome done x.w ts a (fun a' => o.wp P a' x.w (fun a'' W' => ∃ u, a'' = a'.put o.dst u ∧ (Keeps F x.w W' ∧ L' W') ∧ g u W') (fun _ _ _ => False)))
    (hr : wpRel P ops F w eff Q rest (i + 1) ((d, g) :: done) L' a₁) : wpRel P ops F w eff Q (o :: rest) i done L a :=
  ⟨hg, .inr ⟨hw, .inr (.inr ⟨he, .re g, ts, L', hs, hL, hts, h, by simp only [Spec.push, Spec.val, hd]; rw [ha]; exact hr⟩)⟩⟩
end

section
variable {P : Program} {ops : Array Oper} {F : Nat → Prop} {w : World} {eff : List Nat}

theorem slot_put_ne {a : Act} {d t : Tmp} {v : Value} (h : d ≠ t) : (a.put (some d) v).tmps[t]? = a.tmps[t]? := by
  simp [Act.put, Array.getElem?_setIfInBounds_ne h]
theorem slot_put {a : Act} {t : Tmp} {v : Value} (h : t < a.tmps.size) : (a.put (some t) v).tmps[t]? = some v := by
  simp [Act.put, h]
theorem put_size (a : Act) (d : Option Tmp) (v : Value) : (a.put d v).tmps.size = a.tmps.size := by
  cases d <;> simp [Act.put]
theorem put_defers (a : Act) (d : Option Tmp) (v : Value) : (a.put d v).defers = a.defers := by cases d <;> rfl
theorem slot_put_other {a : Act} {d : Option Tmp} {t : Tmp} {v : Value} (h : d ≠ some t) : (a.put d v).tmps[t]? = a.tmps[t]? := by
  cases d with
  | none => rfl
  | some d => exact slot_put_ne (fun e => h (e ▸ rfl))

theorem eval_of_slots {a b : Act} {ts : List Tmp} {x : Operand} (h : ∀ t ∈ ts, a.tmps[t]? = b.tmps[t]?) (hx : ∀ t, x = .tmp t → t ∈ ts) : a.eval x = b.eval x := by
  cases x with
  | tmp t => have := h t (hx t rfl); simp [Act.eval, this]
  | _ => rfl
theorem execOp_slots (o : Oper) (hs : ∀ cs b, o.op ≠ .select cs b) {a b : Act} (h : ∀ t ∈ o.looksAt ops, a.tmps[t]? = b.tmps[t]?) : execOp a.eval o = execOp b.eval o :=
  execOp_congr o hs fun x hx => eval_of_slots h fun t ht => by
    subst ht
    exact List.mem_append_left _ (List.mem_filterMap.2 ⟨.tmp t, by simpa using hx, rfl⟩)
theorem wanted_slots (o : Oper) {a b : Act} (h : ∀ t ∈ guardLooks ops o, a.tmps[t]? = b.tmps[t]?) : Region.wanted o (yielded ops a.tmps) = Region.wanted o (yielded ops b.tmps) := by
  unfold Region.wanted
  cases hg : o.guard with
  | none => rfl
  | some gw =>
    obtain ⟨g, want⟩ := gw
    have hy : yielded ops a.tmps g = yielded ops b.tmps g := by
      unfold yielded
      cases ht : (ops[g]?).bind (·.dst) with
      | none => rfl
      | some t =>
        have := h t (by simp [guardLooks, hg, ht])
        simp [this]
    simp only [hy]
theorem guard_looks {o : Oper} {t : Tmp} (h : t ∈ guardLooks ops o) : t ∈ o.looksAt ops := by
  unfold guardLooks at h
  unfold Oper.looksAt
  exact List.mem_append_right _ h

/-- The same operation in another state that shows it the same. -/
theorem wp_slots {o : Oper} (hs : ∀ cs b, o.op ≠ .select cs b) {a b : Act} {W : World} {g : Value → World → Prop} (ha : ∀ t, o.dst = some t → t < a.tmps.size)
    (h : ∀ t ∈ o.looksAt ops, a.tmps[t]? = b.tmps[t]?) (hw : o.wp P a W (fun a'' W' => ∃ v, a'' = a.put o.dst v ∧ g v W') (fun _ _ _ => False)) :
    o.wp P b W (fun b' W' => ∃ v, b' = b.put o.dst v ∧ g v W') (fun _ _ _ => False) := by
  have tr : ∀ u v, a.put o.dst u = a.put o.dst v → b.put o.dst u = b.put o.dst v := fun u v e => by
    cases hd : o.dst with
    | none => rfl
    | some t =>
      rw [hd] at e
      have h2 := congrArg (fun c : Act => c.tmps[t]?) e
      simp only [slot_put (ha t hd)] at h2
      injection h2 with h2
      rw [h2]
  unfold Oper.wp at *
  rw [execOp_slots o hs h] at hw
  generalize (execOp b.eval o).run P W = r at *
  cases r with
  | ok n w' =>
    cases n <;> simp only [Oper.upon] at hw ⊢
    case value u => obtain ⟨v, e, hg⟩ := hw; exact ⟨v, tr u v e, hg⟩
    case skip => obtain ⟨v, e, hg⟩ := hw; exact ⟨v, tr _ v e, hg⟩
    case defer d =>
      obtain ⟨v, e, hg⟩ := hw
      have := congrArg Act.defers e
      rw [put_defers, put_defers] at this
      exact absurd (congrArg List.length this) (by simp)
    case enter f args =>
      refine Calls.mono hw fun e w'' he => ?_
      cases e with
      | returned u => obtain ⟨v, e, hg⟩ := he; exact ⟨v, tr u v e, hg⟩
      | panicked c => exact he
      | outgrown => obtain ⟨_, _, h⟩ := he; exact h.elim
    case row row args =>
      refine Rows.mono hw fun u w'' he => ?_
      obtain ⟨v, e, hg⟩ := he
      exact ⟨v, tr u v e, hg⟩
  | halt x w' => cases x <;> simp only [Oper.upon] at hw ⊢

/-- What is known of a temporary, operations below i having come up if it waits for them: told by who wrote it, or as it was. -/
def Knows (ops : Array Oper) (S : Nat → Spec) (a₀ : Act) (i : Nat) (b : Act) (W : World) (t : Tmp) : Prop :=
  (∀ j, j < i → dstOf ops j = some t → ∃ v, b.tmps[t]? = some v ∧ (S j).ok v W) ∧ ((∀ j, j < i → dstOf ops j ≠ some t) → b.tmps[t]? = a₀.tmps[t]?)

/-- Operation i, in whatever state: where what it looks at is as it should be, it leaves what it should. -/
def After (F : Nat → Prop) (L : World → Prop) (e : Bool) (W W' : World) : Prop := (e = false → Keeps Nope W W') ∧ (e = true → Keeps F W W' ∧ L W')
def Runs (P : Program) (ops : Array Oper) (F : Nat → Prop) (w : World) (eff : List Nat) (S : Nat → Spec) (Ls : Nat → World → Prop) (a₀ : Act) (i : Nat) (o : Oper) : Prop :=
  ∀ (b : Act) (W : World), Keeps F w W → b.tmps.size = a₀.tmps.size → (∀ t ∈ o.looksAt ops, Knows ops S a₀ i b W t) → (eff.contains i = true → Ls i W) →
    if Region.wanted o (yielded ops b.tmps) then o.wp P b W (fun b' W' => ∃ v, b' = b.put o.dst v ∧ After F (Ls (i + 1)) (eff.contains i) W W' ∧ (S i).ok v W') (fun _ _ _ => False)
    else (S i).ok undef W ∧ (eff.contains i = true → Ls (i + 1) W)

/-- The template: exact values laid; of the others a predicate. -/
structure Templ (F : Nat → Prop) (ops : Array Oper) (S : Nat → Spec) (a₀ : Act) (i : Nat) (done : List (Tmp × Rel)) (a : Act) : Prop where
  size : a.tmps.size = a₀.tmps.size
  defers : a.defers = a₀.defers
  ex : ∀ j v t, j < i → dstOf ops j = some t → S j = .ex v → a.tmps[t]? = some v
  re : ∀ j g t, j < i → dstOf ops j = some t → S j = .re g → done.find? (fun p => p.1 == t) = some (t, g)
  other : ∀ t, (∀ j, j < i → dstOf ops j ≠ some t) → a.tmps[t]? = a₀.tmps[t]?
  only : ∀ p ∈ done, ∃ j, j < i ∧ dstOf ops j = some p.1 ∧ S j = .re p.2
  grows : ∀ j, j < i → (S j).grows F

theorem clear_spec {done : List (Tmp × Rel)} {ts : List Tmp} (h : clear done ts = true) : ∀ t ∈ ts, ∀ p ∈ done, p.1 ≠ t := by
  intro t ht p hp e
  have := List.all_eq_true.1 h t ht
  simp only [Bool.not_eq_true', List.any_eq_false, beq_iff_eq] at this
  exact this p hp e
theorem find_none {done : List (Tmp × Rel)} {t : Tmp} (h : ∀ p ∈ done, p.1 ≠ t) : done.find? (fun p => p.1 == t) = none := by
  simp only [List.find?_eq_none, beq_iff_eq]
  exact h

/-- Of a temporary that no predicate tells of, the state shows what the template shows. -/
theorem Templ.same {S : Nat → Spec} {a₀ a b : Act} {i : Nat} {done : List (Tmp × Rel)} {W : World} {t : Tmp} (T : Templ F ops S a₀ i done a) (hc : ∀ p ∈ done, p.1 ≠ t) (hk : Knows ops S a₀ i b W t) : a.tmps[t]? = b.tmps[t]? := by
  by_cases h : ∃ j, j < i ∧ dstOf ops j = some t
  · obtain ⟨j, hj, hd⟩ := h
    obtain ⟨v, hv, hok⟩ := hk.1 j hj hd
    cases hS : S j with
    | ex u =>
      rw [hS] at hok
      rw [T.ex j u t hj hd hS, hv]
      exact congrArg some hok.symm
    | re g =>
      have := T.re j g t hj hd hS
      rw [find_none hc] at this
      cases this
  · have hn : ∀ j, j < i → dstOf ops j ≠ some t := fun j hj hd => h ⟨j, hj, hd⟩
    rw [T.other t hn, hk.2 hn]

theorem bind_inst {S : Nat → Spec} {a₀ b : Act} {i : Nat} {done : List (Tmp × Rel)} {W : World} {K : Act → Prop} : ∀ (ts : List Tmp) (a a₁ : Act), Templ F ops S a₀ i done a → (∀ t ∈ ts, Knows ops S a₀ i b W t) →
    a₁.tmps.size = a₀.tmps.size → b.tmps.size = a₀.tmps.size → (∀ t : Tmp, a₁.tmps[t]? = a.tmps[t]? ∨ a₁.tmps[t]? = b.tmps[t]?) →
    bindSome done W ts a₁ K → ∃ a₂, K a₂ ∧ a₂.tmps.size = a₀.tmps.size ∧ a₂.defers = a₁.defers ∧ (∀ t : Tmp, a₁.tmps[t]? = b.tmps[t]? → a₂.tmps[t]? = b.tmps[t]?) ∧ (∀ t ∈ ts, a₂.tmps[t]? = b.tmps[t]?)
  | [], a, a₁, T, _, hs, hb, _, h => ⟨a₁, h, hs, rfl, fun _ h => h, fun t ht => by cases ht⟩
  | t :: ts, a, a₁, T, hk, hs, hb, ho, h => by
    simp only [bindSome] at h
    have hkt := hk t (by simp)
    cases hf : done.find? (fun p => p.1 == t) with
    | none =>
      rw [hf] at h
      have hc : ∀ p ∈ done, p.1 ≠ t := by
        intro p hp e
        have := List.find?_eq_none.1 hf p hp
        simp [e] at this
      obtain ⟨a₂, h1, h2, h0, h3, h4⟩ := bind_inst ts a a₁ T (fun u hu => hk u (by simp [hu])) hs hb ho h
      have e1 : a₁.tmps[t]? = b.tmps[t]? := by
        rcases ho t with e | e
        · rw [e]; exact T.same hc hkt
        · exact e
      refine ⟨a₂, h1, h2, h0, h3, fun u hu => ?_⟩
      rcases List.mem_cons.1 hu with rfl | hu
      · exact h3 _ e1
      · exact h4 u hu
    | some p =>
      rw [hf] at h
      have hp : p.1 = t := by have := List.find?_some hf; simpa using this
      have hm : p ∈ done := List.mem_of_find?_eq_some hf
      obtain ⟨j, hj, hd, hS⟩ := T.only p hm
      rw [hp] at hd
      obtain ⟨v, hv, hok⟩ := hkt.1 j hj hd
      rw [hS] at hok
      have htl : t < a₁.tmps.size := by
        rw [hs, ← hb]
        exact (Array.getElem?_eq_some_iff.1 hv).1
      have e1 : (a₁.put (some t) v).tmps[t]? = b.tmps[t]? := by rw [slot_put htl, hv]
      obtain ⟨a₂, h1, h2, h0, h3, h4⟩ := bind_inst ts a (a₁.put (some t) v) T (fun u hu => hk u (by simp [hu])) (by rw [put_size]; exact hs) hb (fun u => by
        by_cases hu : u = t
        · subst hu; exact .inr e1
        · rw [slot_put_ne (Ne.symm hu)]; exact ho u) (h v hok)
      refine ⟨a₂, h1, h2, h0, fun u hu => ?_, fun u hu => ?_⟩
      · by_cases hut : u = t
        · subst hut; exact h3 _ e1
        · exact h3 u (by rw [slot_put_ne (Ne.symm hut)]; exact hu)
      · rcases List.mem_cons.1 hu with rfl | hu
        · exact h3 _ e1
        · exact h4 u hu
theorem bindAll_inst {S : Nat → Spec} {a₀ a b : Act} {i : Nat} {done : List (Tmp × Rel)} {W : World} {K : Act → Prop} (T : Templ F ops S a₀ i done a) (hk : ∀ t, Knows ops S a₀ i b W t)
    (hb : b.tmps.size = a₀.tmps.size) : ∀ (d : List (Tmp × Rel)) (a₁ : Act), (∀ p ∈ d, p ∈ done) → a₁.tmps.size = a₀.tmps.size → bindAll W d a₁ K →
    ∃ a₂, K a₂ ∧ a₂.tmps.size = a₀.tmps.size ∧ a₂.defers = a₁.defers ∧ (∀ t : Tmp, a₁.tmps[t]? = b.tmps[t]? → a₂.tmps[t]? = b.tmps[t]?) ∧ (∀ p ∈ d, a₂.tmps[p.1]? = b.tmps[p.1]?) ∧ (∀ t : Tmp, (∀ p ∈ d, p.1 ≠ t) → a₂.tmps[t]? = a₁.tmps[t]?)
  | [], a₁, _, hs, h => ⟨a₁, h, hs, rfl, fun _ h => h, (fun p hp => (List.not_mem_nil hp).elim), fun _ _ => rfl⟩
  | p :: d, a₁, hd, hs, h => by
    obtain ⟨j, hj, hdj, hS⟩ := T.only p (hd p (by simp))
    obtain ⟨v, hv, hok⟩ := (hk p.1).1 j hj hdj
    rw [hS] at hok
    have htl : p.1 < a₁.tmps.size := by
      rw [hs, ← hb]
      exact (Array.getElem?_eq_some_iff.1 hv).1
    have e1 : (a₁.put (some p.1) v).tmps[p.1]? = b.tmps[p.1]? := by rw [slot_put htl, hv]
    obtain ⟨a₂, h1, h2, h0, h3, h4, h5⟩ := bindAll_inst T hk hb d (a₁.put (some p.1) v) (fun q hq => hd q (by simp [hq])) (by rw [put_size]; exact hs) (h v hok)
    refine ⟨a₂, h1, h2, h0, fun u hu => ?_, fun q hq => ?_, fun u hu => ?_⟩
    · by_cases hut : u = p.1
      · subst hut; exact h3 _ e1
      · exact h3 u (by rw [slot_put_ne (Ne.symm hut)]; exact hu)
    · rcases List.mem_cons.1 hq with rfl | hq
      · exact h3 _ e1
      · exact h4 q hq
    · rw [h5 u (fun q hq => hu q (by simp [hq])), slot_put_ne (hu p (by simp))]

theorem Runs.congr {S S' : Nat → Spec} {Ls Ls' : Nat → World → Prop} {a₀ : Act} {i : Nat} {o : Oper} (h : ∀ j, j ≤ i → S j = S' j) (hL : ∀ j, j ≤ i + 1 → Ls j = Ls' j) (hr : Runs P ops F w eff S Ls a₀ i o) : Runs P ops F w eff S' Ls' a₀ i o := by
  intro b W hK hs hk hl
  have := hr b W hK hs (fun t ht => ⟨fun j hj hd => by rw [h j (Nat.le_of_lt hj)]; exact (hk t ht).1 j hj hd, (hk t ht).2⟩) (fun he => by rw [hL i (by omega)]; exact hl he)
  rw [h i (Nat.le_refl i), hL (i + 1) (Nat.le_refl _)] at this
  exact this

theorem quiet_runs {o : Oper} (hs : ∀ cs b, o.op ≠ .select cs b) {a b : Act} {v : Value} {W : World} (ha : ∀ t, o.dst = some t → t < a.tmps.size) (h : ∀ t ∈ o.looksAt ops, a.tmps[t]? = b.tmps[t]?)
    (hq : o.quiet P a (fun W' => W' = W) (fun a' => SlotIs o.dst a' v)) : o.wp P b W (fun b' W' => ∃ u, b' = b.put o.dst u ∧ Keeps Nope W W' ∧ u = v) (fun _ _ _ => False) := by
  obtain ⟨u, h1, h2⟩ := hq
  have h3 := h1 W rfl
  have e : ∀ c : Act, c.put o.dst u = c.put o.dst v := fun c => by
    cases hd : o.dst with
    | none => rfl
    | some t =>
      rw [hd] at h2
      simp only [SlotIs, slot_put (ha t hd)] at h2
      injection h2 with h2
      rw [h2]
  unfold Oper.quietAt at h3
  rw [execOp_slots o hs h] at h3
  unfold Oper.wp
  generalize (execOp b.eval o).run P W = r at *
  cases r with
  | ok n w' =>
    cases n <;> simp only [Oper.quietUpon] at h3 <;> simp only [Oper.upon]
    case value x => obtain ⟨rfl, rfl⟩ := h3; exact ⟨v, e b, Keeps.refl _ _, rfl⟩
    case skip => obtain ⟨rfl, rfl⟩ := h3; exact ⟨v, e b, Keeps.refl _ _, rfl⟩
    case enter f args =>
      obtain ⟨rfl, hc⟩ := h3
      exact hc.mono fun x w'' ⟨he, hw''⟩ => by subst he; subst hw''; exact ⟨v, e b, Keeps.refl _ _, rfl⟩
  | halt x w' => simp only [Oper.quietUpon] at h3

/-- What the walk in the text's order shows of each operation. -/
theorem chain {Q : List (Tmp × Rel) → (World → Prop) → Act → Prop} {a₀ : Act} {n : Nat} (hsel : ∀ (j : Nat) (o : Oper) cs b, ops[j]? = some o → o.op ≠ .select cs b)
    (hdist : ∀ i, i < n → ∀ d, dstOf ops i = some d → d < a₀.tmps.size ∧ ∀ j, j < i → dstOf ops j ≠ some d) :
    ∀ (l : List Oper) (k : Nat) (S₀ : Nat → Spec) (L₀ : Nat → World → Prop) (done : List (Tmp × Rel)) (a : Act), (∀ j, j < l.length → l[j]? = ops[k + j]?) → k + l.length ≤ n → Templ F ops S₀ a₀ k done a → LGrows (L₀ k) → wpRel P ops F w eff Q l k done (L₀ k) a →
    ∃ S Ls done' a', (∀ j, j < k → S j = S₀ j) ∧ (∀ j, j ≤ k → Ls j = L₀ j) ∧ (∀ i o, k ≤ i → i < k + l.length → ops[i]? = some o → Runs P ops F w eff S Ls a₀ i o) ∧ (∀ i, k ≤ i → i < k + l.length → eff.contains i = false → Ls (i + 1) = Ls i) ∧
      (∀ i, k ≤ i → i ≤ k + l.length → LGrows (Ls i)) ∧ Templ F ops S a₀ (k + l.length) done' a' ∧ Q done' (Ls (k + l.length)) a'
  | [], k, S₀, L₀, done, a, _, _, T, hLg, h => ⟨S₀, L₀, done, a, fun _ _ => rfl, fun _ _ => rfl, fun i o h1 h2 _ => absurd h2 (by simp; omega), fun i h1 h2 => absurd h2 (by simp; omega), fun i h1 h2 => (show i = k by simp at h2; omega) ▸ hLg, T, h⟩
  | o :: l, k, S₀, L₀, done, a, hl, hn, T, hLg, h => by
    have h0 : ops[k]? = some o := by have := hl 0 (by simp); simpa using this.symm
    have hkn : k < n := by simp at hn; omega
    have hd0 : dstOf ops k = o.dst := by simp [dstOf, h0]
    have hdk := hdist k hkn
    rw [hd0] at hdk
    have hdst : ∀ t, o.dst = some t → t < a.tmps.size := fun t ht => by rw [T.size]; exact (hdk t ht).1
    -- one step
    have step : ∃ (s : Spec) (L' : World → Prop), s.grows F ∧ LGrows L' ∧ (eff.contains k = false → L' = L₀ k) ∧ Runs P ops F w eff (fun j => if j = k then s else S₀ j) (fun j => if j = k + 1 then L' else L₀ j) a₀ k o ∧ wpRel P ops F w eff Q l (k + 1) (s.push o.dst done) L' (a.put o.dst s.val) := by
      obtain ⟨hgl, h⟩ := h
      have gd : ∀ (s : Spec) (b : Act) (W : World), (∀ t ∈ o.looksAt ops, Knows ops (fun j => if j = k then s else S₀ j) a₀ k b W t) → (∀ t ∈ o.looksAt ops, Knows ops S₀ a₀ k b W t) := fun s b W hk t ht =>
        ⟨fun j hj hd => by have := (hk t ht).1 j hj hd; simpa [show j ≠ k by omega] using this, (hk t ht).2⟩
      have gw : ∀ (b : Act) (W : World), (∀ t ∈ o.looksAt ops, Knows ops S₀ a₀ k b W t) → Region.wanted o (yielded ops b.tmps) = Region.wanted o (yielded ops a.tmps) := fun b W hk =>
        (wanted_slots o fun t ht => T.same (clear_spec hgl t ht) (hk t (guard_looks ht))).symm
      have gl : ∀ (L' : World → Prop) (W : World), (if k = k + 1 then L' else L₀ k) W → L₀ k W := fun L' W h => by rwa [if_neg (by omega)] at h
      rcases h with ⟨hw, h⟩ | ⟨hw, ⟨hef, a₁, hcl, hq, h⟩ | ⟨hef, s, ts, hg, hts, hq, h⟩ | ⟨hef, s, ts, L', hg, hLg', hts, hq, h⟩⟩
      · refine ⟨.ex undef, L₀ k, trivial, hLg, fun _ => rfl, fun b W hK hs hk hL => ?_, h⟩
        rw [gw b W (gd _ b W hk), hw]
        simp only [Bool.false_eq_true, if_false, if_true, Spec.ok, true_and]
        exact fun he => gl _ W (hL he)
      · obtain ⟨v, _, e1⟩ := hq ⟨w, Keeps.refl _ _⟩
        subst e1
        refine ⟨.ex v, L₀ k, trivial, hLg, fun _ => rfl, fun b W hK hs hk hL => ?_, h⟩
        have hk' := gd _ b W hk
        rw [gw b W hk', hw]
        simp only [if_true]
        refine Oper.wp_mono (fun b' W' h => ?_) (quiet_runs (hsel k o · · h0) hdst (fun t ht => T.same (clear_spec hcl t ht) (hk' t ht)) (Oper.quiet_mono (fun a' e => by
          subst e
          cases hdo : o.dst with
          | none => trivial
          | some t => exact slot_put (hdst t hdo)) (hq ⟨W, hK⟩)))
        obtain ⟨u, e1, e2, e3⟩ := h
        exact ⟨u, e1, ⟨fun _ => e2, fun he => (by rw [hef] at he; cases he)⟩, e3⟩
      · refine ⟨s, L₀ k, hg, hLg, fun _ => rfl, fun b W hK hs hk hL => ?_, h⟩
        have hk' := gd _ b W hk
        rw [gw b W hk', hw]
        simp only [if_true]
        simp only [tsB, Bool.and_eq_true, List.all_eq_true, Bool.or_eq_true, Bool.not_eq_true', List.any_eq_false, beq_iff_eq, List.contains_iff_mem] at hts
        obtain ⟨a₂, hwp, hs2, _, hsl3, hsl⟩ := bind_inst ts a a T (fun t ht => hk' t (hts.2 t ht)) T.size hs (fun t => .inl rfl) (hq ⟨W, hK⟩)
        refine wp_slots (ops := ops) (hsel k o · · h0) (fun t ht => by rw [hs2]; exact (hdk t ht).1) (fun t ht => ?_) (Oper.wp_mono (fun b' W' h => ?_) hwp)
        · rcases hts.1 t ht with h1 | h1
          · exact hsl3 t (T.same h1 (hk' t ht))
          · exact hsl t h1
        · obtain ⟨u, e1, e2, e3⟩ := h
          exact ⟨u, e1, ⟨fun _ => e2, fun he => (by rw [hef] at he; cases he)⟩, e3⟩
      · refine ⟨s, L', hg, hLg', fun he => (by rw [hef] at he; cases he), fun b W hK hs hk hL => ?_, h⟩
        have hk' := gd _ b W hk
        rw [gw b W hk', hw]
        simp only [if_true]
        simp only [tsB, Bool.and_eq_true, List.all_eq_true, Bool.or_eq_true, Bool.not_eq_true', List.any_eq_false, beq_iff_eq, List.contains_iff_mem] at hts
        obtain ⟨a₂, hwp, hs2, _, hsl3, hsl⟩ := bind_inst ts a a T (fun t ht => hk' t (hts.2 t ht)) T.size hs (fun t => .inl rfl) (hq ⟨W, hK⟩ (gl _ W (hL hef)))
        refine wp_slots (ops := ops) (hsel k o · · h0) (fun t ht => by rw [hs2]; exact (hdk t ht).1) (fun t ht => ?_) (Oper.wp_mono (fun b' W' h => ?_) hwp)
        · rcases hts.1 t ht with h1 | h1
          · exact hsl3 t (T.same h1 (hk' t ht))
          · exact hsl t h1
        · obtain ⟨u, e1, e2, e3⟩ := h
          exact ⟨u, e1, ⟨fun he => (by rw [hef] at he; cases he), fun _ => e2⟩, e3⟩
    obtain ⟨s, L', hg, hLg', hLe, hrun, hrest⟩ := step
    have T' : Templ F ops (fun j => if j = k then s else S₀ j) a₀ (k + 1) (s.push o.dst done) (a.put o.dst s.val) := by
      refine ⟨by rw [put_size]; exact T.size, by rw [put_defers]; exact T.defers, fun j v t hj hd hS => ?_, fun j g t hj hd hS => ?_, fun t ht => ?_, fun p hp => ?_, fun j hj => ?_⟩
      · by_cases hjk : j = k
        · subst hjk
          simp only [if_true] at hS
          subst hS
          rw [hd0] at hd
          rw [hd]
          exact slot_put (hdst t hd)
        · have hj' : j < k := by omega
          simp only [hjk, if_false] at hS
          rw [slot_put_other (fun e => (hdk t e).2 j hj' hd)]
          exact T.ex j v t hj' hd hS
      · by_cases hjk : j = k
        · subst hjk
          simp only [if_true] at hS
          subst hS
          rw [hd0] at hd
          simp [Spec.push, hd]
        · have hj' : j < k := by omega
          simp only [hjk, if_false] at hS
          have h2 := T.re j g t hj' hd hS
          cases s with
          | ex v => exact h2
          | re g' =>
            simp only [Spec.push]
            cases hdo : o.dst with
            | none => exact h2
            | some d =>
              have hne : d ≠ t := fun e => (hdk d hdo).2 j hj' (e ▸ hd)
              simp only [List.find?_cons]
              rw [show (d == t) = false by simpa using hne]
              exact h2
      · rw [slot_put_other (fun e => ht k (by omega) (hd0.trans e))]
        exact T.other t fun j hj => ht j (by omega)
      · have keep : ∀ p ∈ done, ∃ j, j < k + 1 ∧ dstOf ops j = some p.1 ∧ (if j = k then s else S₀ j) = .re p.2 := fun p hp => by
          obtain ⟨j, hj, hd, hS⟩ := T.only p hp
          exact ⟨j, by omega, hd, by rw [if_neg (by omega)]; exact hS⟩
        cases s with
        | ex v => exact keep p hp
        | re g =>
          simp only [Spec.push] at hp
          cases hdo : o.dst with
          | none => rw [hdo] at hp; exact keep p hp
          | some d =>
            rw [hdo] at hp
            rcases List.mem_cons.1 hp with rfl | hp
            · exact ⟨k, by omega, hd0.trans hdo, by simp⟩
            · exact keep p hp
      · by_cases hjk : j = k
        · simp only [hjk, if_true]; exact hg
        · simp only [hjk, if_false]; exact T.grows j (by omega)
    obtain ⟨S, Ls, done', a', hS, hL, hR, hE, hG, hT, hQ⟩ := chain hsel hdist l (k + 1) (fun j => if j = k then s else S₀ j) (fun j => if j = k + 1 then L' else L₀ j) _ _ (fun j hj => by have := hl (j + 1) (by simp; omega); simpa [Nat.add_assoc, Nat.add_comm 1 j] using this) (by simp at hn; omega) T' (by simp only [if_true]; exact hLg') (by simp only [if_true]; exact hrest)
    have e : k + 1 + l.length = k + (o :: l).length := by simp; omega
    refine ⟨S, Ls, done', a', fun j hj => by rw [hS j (by omega), if_neg (by omega)], fun j hj => by rw [hL j (by omega), if_neg (by omega)], fun i oi h1 h2 hi => ?_, fun i h1 h2 he => ?_, fun i h1 h2 => ?_, e ▸ hT, e ▸ hQ⟩
    · by_cases hik : i = k
      · subst hik
        obtain rfl : o = oi := Option.some.inj (h0.symm.trans hi)
        exact hrun.congr (fun j hj => (hS j (by omega)).symm) (fun j hj => (hL j hj).symm)
      · exact hR i oi (by omega) (by rw [e]; exact h2) hi
    · by_cases hik : i = k
      · subst hik
        rw [hL (i + 1) (Nat.le_refl _), hL i (by omega), if_pos rfl, if_neg (by omega)]
        exact hLe he
      · exact hE i (by omega) (by rw [e]; exact h2) he
    · by_cases hik : i = k
      · subst hik
        rw [hL i (by omega), if_neg (by omega)]
        exact hLg
      · exact hG i (by omega) (by rw [e]; exact h2)

theorem wp_widen {o : Oper} {b : Act} {W : World} {K : Act → World → Prop} {Q' : Exit → Act → World → Prop} (h : o.wp P b W K (fun _ _ _ => False)) : o.wp P b W K Q' := by
  unfold Oper.wp at *
  generalize (execOp b.eval o).run P W = r at *
  cases r with
  | ok n w' =>
    cases n <;> simp only [Oper.upon] at h ⊢
    case value u => exact h
    case skip => exact h
    case defer d => exact h
    case enter f args =>
      refine Calls.mono h fun e w'' he => ?_
      cases e with
      | returned u => exact he
      | panicked c => exact he.elim
      | outgrown => obtain ⟨_, _, h⟩ := he; exact h.elim
    case row row args => exact h
  | halt x w' => cases x <;> simp only [Oper.upon] at h ⊢

def cnt (listed : Array Bool) : Nat → Nat
  | 0 => 0
  | k + 1 => cnt listed k + (if listed.getD k false then 0 else 1)
theorem cnt_set {listed : Array Bool} {i : Nat} : ∀ (n : Nat), i < listed.size → listed.getD i false = false → (n ≤ i → cnt (listed.setIfInBounds i true) n = cnt listed n) ∧ (i < n → cnt (listed.setIfInBounds i true) n + 1 = cnt listed n)
  | 0, _, _ => ⟨fun _ => rfl, fun h => absurd h (by omega)⟩
  | k + 1, hs, hi => by
    have ih := cnt_set k hs hi
    refine ⟨fun h => ?_, fun h => ?_⟩
    · simp only [cnt]
      rw [ih.1 (by omega), getD_set_ne false (by omega)]
    · simp only [cnt]
      by_cases hik : i = k
      · subst hik
        rw [ih.1 (Nat.le_refl _)]
        have : (listed.setIfInBounds i true).getD i false = true := by simp [hs]
        rw [this, hi]
        simp
      · have := ih.2 (by omega)
        rw [getD_set_ne false hik]
        omega
theorem cnt_zero {listed : Array Bool} : ∀ (n : Nat), cnt listed n = 0 → ∀ i, i < n → listed.getD i false = true
  | 0, _, i, hi => absurd hi (by omega)
  | k + 1, h, i, hi => by
    simp only [cnt] at h
    by_cases hik : i = k
    · subst hik
      cases hl : listed.getD i false with
      | true => rfl
      | false => rw [hl] at h; simp at h
    · exact cnt_zero k (by omega) i (by omega)
theorem cnt_pos {listed : Array Bool} : ∀ (n : Nat), cnt listed n ≠ 0 → ∃ i, i < n ∧ listed.getD i false = false ∧ ∀ j, j < i → listed.getD j false = true
  | 0, h => absurd rfl h
  | k + 1, h => by
    by_cases hc : cnt listed k = 0
    · refine ⟨k, by omega, ?_, cnt_zero k hc⟩
      cases hl : listed.getD k false with
      | false => rfl
      | true => simp only [cnt, hc, hl] at h; simp at h
    · obtain ⟨i, h1, h2, h3⟩ := cnt_pos k hc
      exact ⟨i, by omega, h2, h3⟩

theorem afters_spec {i j : Nat} {o : Oper} (ho : ops[i]? = some o) : j ∈ aftersOf ops i ↔ ∃ e ∈ o.after, Region.binds .any e = true ∧ e.on = j := by
  unfold aftersOf
  simp only [ho, List.mem_map, List.mem_filter, Array.mem_toList_iff]
  exact ⟨fun ⟨e, ⟨h1, h2⟩, h3⟩ => ⟨e, h1, h2, h3⟩, fun ⟨e, h1, h2, h3⟩ => ⟨e, ⟨h1, h2⟩, h3⟩⟩
theorem downTo_listed {listed : Array Bool} (hc : ∀ j oj, ops[j]? = some oj → listed.getD j false = true → ∀ e ∈ oj.after, Region.binds .any e = true → listed.getD e.on false = true) :
    ∀ (k : Nat) (s : List Nat), (∀ x ∈ s, listed.getD x false = true) → ∀ x ∈ downTo ops k s, listed.getD x false = true
  | 0, s, h => h
  | k + 1, s, h => by
    simp only [downTo]
    refine downTo_listed hc k _ ?_
    split
    · rename_i hk
      intro x hx
      rcases List.mem_append.1 hx with hx | hx
      · exact h x hx
      · have hkl := h k (by simpa using hk)
        cases hok : ops[k]? with
        | none => simp [aftersOf, hok] at hx
        | some ok =>
          obtain ⟨e, he, hb, rfl⟩ := (afters_spec hok).1 hx
          exact hc k ok hok hkl e he hb
    · exact h

/-- The head's state, whatever came up. -/
structure RInv (ops : Array Oper) (F : Nat → Prop) (w : World) (eff : List Nat) (S : Nat → Spec) (Ls : Nat → World → Prop) (a₀ : Act) (n : Nat) (listed : Array Bool) (b : Act) (W : World) : Prop where
  head : HeadInv .any ops n listed
  keeps : Keeps F w W
  lin : ∃ j, j ≤ n ∧ (∀ e, e < n → eff.contains e = true → (listed.getD e false = true ↔ e < j)) ∧ Ls j W
  size : b.tmps.size = a₀.tmps.size
  defers : b.defers = a₀.defers
  done : ∀ j, j < n → listed.getD j false = true → ∀ t, dstOf ops j = some t → ∃ v, b.tmps[t]? = some v ∧ (S j).ok v W
  fresh : ∀ t, (∀ j, j < n → listed.getD j false = true → dstOf ops j ≠ some t) → b.tmps[t]? = a₀.tmps[t]?

structure Fine (ops : Array Oper) (n N : Nat) (eff : List Nat) : Prop where
  sel : ∀ (j : Nat) (o : Oper) cs b, ops[j]? = some o → o.op ≠ .select cs b
  le : n ≤ ops.size
  order : ∀ i, i < n → ∀ j ∈ aftersOf ops i, j < i
  dist : ∀ i, i < n → ∀ d, dstOf ops i = some d → d < N ∧ ∀ j, j < i → dstOf ops j ≠ some d
  looks : ∀ i, i < n → ∀ t ∈ looksOf ops i, ∀ j, j < n → dstOf ops j = some t → (j < i → j ∈ upon ops i) ∧ (i ≤ j → j = i ∨ i ∈ upon ops j)
  effs : ∀ j ∈ eff, j < n ∧ ∀ k ∈ eff, j < k → j ∈ upon ops k
  tail : n = ops.size ∨ (Region.sinkB .any ops n = true ∧ Region.chainB .any ops n = true)
  seq : Region.seqB .any ops (ops.size - n) n (canon n ops.size) = true

theorem relB_fine {n N : Nat} (h : relB ops n N eff = true) : Fine ops n N eff := by
  simp only [relB, Bool.and_eq_true, decide_eq_true_eq] at h
  obtain ⟨⟨⟨⟨⟨⟨⟨h1, h2⟩, h3⟩, h4⟩, h5⟩, h8⟩, h6⟩, h7⟩ := h
  refine ⟨Region.noSelect_spec h1, h2, fun i hi j hj => ?_, fun i hi d hd => ?_, fun i hi t ht j hj hd => ?_, fun j hj => ?_, ?_, h7⟩
  · have := List.all_eq_true.1 (List.all_eq_true.1 h3 i (List.mem_range.2 hi)) j hj
    simpa using this
  · have := List.all_eq_true.1 h4 i (List.mem_range.2 hi)
    rw [hd] at this
    simp only [Bool.and_eq_true, decide_eq_true_eq, List.all_eq_true, List.mem_range, bne_iff_ne] at this
    exact this
  · have := List.all_eq_true.1 (List.all_eq_true.1 (List.all_eq_true.1 h5 i (List.mem_range.2 hi)) t ht) j (List.mem_range.2 hj)
    simp only [Bool.or_eq_true, bne_iff_ne] at this
    rcases this with h | h
    · exact absurd hd h
    · refine ⟨fun hji => ?_, fun hij => ?_⟩
      · rw [if_pos hji] at h; simpa using h
      · rw [if_neg (by omega)] at h; simpa using h
  · have := List.all_eq_true.1 h8 j hj
    simp only [Bool.and_eq_true, decide_eq_true_eq, List.all_eq_true, Bool.or_eq_true, List.contains_iff_mem] at this
    refine ⟨this.1, fun k hk hjk => ?_⟩
    rcases this.2 k hk with h | h
    · omega
    · exact h
  · simp only [Bool.or_eq_true, beq_iff_eq, Bool.and_eq_true] at h6
    exact h6

theorem getD_false_iff {listed : Array Bool} {i : Nat} (hi : i < listed.size) : listed.getD i true = false ↔ listed.getD i false = false := by simp [hi]

theorem lin_same {Ls : Nat → World → Prop} {n : Nat} (hE : ∀ i, i < n → eff.contains i = false → Ls (i + 1) = Ls i) : ∀ (d j : Nat), j + d ≤ n → (∀ i, j ≤ i → i < j + d → eff.contains i = false) → Ls (j + d) = Ls j
  | 0, _, _, _ => rfl
  | d + 1, j, hn, h => by
    rw [← Nat.add_assoc, hE (j + d) (by omega) (h _ (by omega) (by omega))]
    exact lin_same hE d j (by omega) (fun i h1 h2 => h i h1 (by omega))

theorem wpAny_rel {Q' : Exit → Act → World → Prop} {S : Nat → Spec} {Ls : Nat → World → Prop} {a₀ : Act} {n : Nat} (Fi : Fine ops n a₀.tmps.size eff)
    (hR : ∀ i o, i < n → ops[i]? = some o → Runs P ops F w eff S Ls a₀ i o) (hG : ∀ j, j < n → (S j).grows F) (hE : ∀ i, i < n → eff.contains i = false → Ls (i + 1) = Ls i) (hLg : ∀ i, i ≤ n → LGrows (Ls i))
    (hend : ∀ b W, (RInv ops F w eff S Ls a₀ n (canon n ops.size) b W) → wpList P ops Q' (ops.toList.drop n) b W) :
    ∀ (m : Nat) (listed : Array Bool) (b : Act) (W : World), RInv ops F w eff S Ls a₀ n listed b W → cnt listed n = m → wpAny P .any ops Q' (m + (ops.size - n)) listed b W
  | 0, listed, b, W, inv, hm => by
    have hall := cnt_zero n hm
    have e : listed = canon n ops.size := by
      refine Array.ext (by rw [inv.head.size]; simp [canon]; have := Fi.le; omega) fun i h1 h2 => ?_
      rw [inv.head.size] at h1
      by_cases hi : i < n
      · have h3 := hall i hi
        have h4 : listed[i] = true := by simpa [Array.getD, inv.head.size, h1] using h3
        rw [h4]
        simp [canon, List.getElem_append, hi]
      · have h3 := inv.head.tail i (by omega) h1
        have h4 : listed[i] = false := by simpa [Array.getD, inv.head.size, h1] using h3
        rw [h4]
        simp [canon, List.getElem_append, hi]
    subst e
    rw [Nat.zero_add]
    have := wpAny_of_seq (md := .any) (Q' := Q') (ops.toList.drop n) n (canon n ops.size) b W (fun j => by simp [List.getElem?_drop]) (by rw [List.length_drop, Array.length_toList]; exact Fi.seq) (hend b W inv)
    rwa [List.length_drop, Array.length_toList] at this
  | m + 1, listed, b, W, inv, hm => by
    obtain ⟨i, hi, hiu, hbelow⟩ := cnt_pos n (by omega : cnt listed n ≠ 0)
    have his : i < ops.size := by have := Fi.le; omega
    have hius : i < listed.size := by rw [inv.head.size]; exact his
    have hready : i ∈ Region.ready .any ops listed := by
      rw [mem_ready]
      refine ⟨(getD_false_iff hius).2 hiu, ops[i], by simp [his], fun e he hb => hbelow _ (Fi.order i hi _ ((afters_spec (by simp [his])).2 ⟨e, he, hb, rfl⟩))⟩
    rw [show m + 1 + (ops.size - n) = (m + (ops.size - n)) + 1 by omega]
    refine ⟨fun h => (by rw [h] at hready; cases hready), fun j hj => ?_⟩
    obtain ⟨hju, oj, hoj, hall⟩ := mem_ready.1 hj
    have hjs : j < ops.size := (Array.getElem?_eq_some_iff.1 hoj).1
    have hjn : j < n := by
      rcases Nat.lt_or_ge j n with h | h
      · exact h
      · rcases Fi.tail with h2 | ⟨h2, h3⟩
        · omega
        · rcases Nat.lt_or_ge n ops.size with h4 | h4
          · exact absurd hj (tail_waits h2 h3 h4 inv.head _ i rfl hi ((getD_false_iff hius).2 hiu) j h)
          · omega
    have hjus : j < listed.size := by rw [inv.head.size]; exact hjs
    have hjf := (getD_false_iff hjus).1 hju
    have hupon : ∀ x ∈ upon ops j, listed.getD x false = true := downTo_listed inv.head.closed j _ fun x hx => by
      obtain ⟨e, he, hb, rfl⟩ := (afters_spec hoj).1 hx
      exact hall e he hb
    have hlooks : looksOf ops j = oj.looksAt ops := by simp [looksOf, hoj]
    have know : ∀ t ∈ oj.looksAt ops, Knows ops S a₀ j b W t := fun t ht => by
      have hl := Fi.looks j hjn t (by rw [hlooks]; exact ht)
      refine ⟨fun x hx hd => inv.done x (by omega) (hupon x ((hl x (by omega) hd).1 hx)) t hd, fun hno => inv.fresh t fun x hx hxl hd => ?_⟩
      by_cases hxj : x < j
      · exact hno x hxj hd
      · rcases (hl x hx hd).2 (by omega) with rfl | h
        · rw [hxl] at hjf; cases hjf
        · cases hox : ops[x]? with
          | none => simp [dstOf, hox] at hd
          | some ox =>
            have := downTo_listed (ops := ops) inv.head.closed x (aftersOf ops x) (fun y hy => by
              obtain ⟨e, he, hb, rfl⟩ := (afters_spec hox).1 hy
              exact inv.head.closed x ox hox hxl e he hb) j h
            rw [this] at hjf; cases hjf
    have notlisted : ∀ x, x < n → listed.getD x false = true → j ∈ upon ops x → False := fun x hx hxl h => by
      cases hox : ops[x]? with
      | none => have := Fi.le; simp at hox; omega
      | some ox =>
        have := downTo_listed (ops := ops) inv.head.closed x (aftersOf ops x) (fun y hy => by
          obtain ⟨e, he, hb, rfl⟩ := (afters_spec hox).1 hy
          exact inv.head.closed x ox hox hxl e he hb) j h
        rw [this] at hjf; cases hjf
    obtain ⟨p, hp, hpe, hpl⟩ := inv.lin
    have atj : eff.contains j = true → Ls j W := fun he => by
      have hpj : p ≤ j := by
        have := (hpe j hjn he)
        rw [hjf] at this
        simpa using this
      have e1 := lin_same hE (j - p) p (by omega) (fun i h1 h2 => by
        cases hce : eff.contains i with
        | false => rfl
        | true =>
          have hil := hupon i ((Fi.effs i (by simpa using hce)).2 j (by simpa using he) (by omega))
          have := (hpe i (by omega) hce).1 hil
          omega)
      rw [show p + (j - p) = j by omega] at e1
      rw [e1]
      exact hpl
    have hrun := hR j oj hjn hoj b W inv.keeps inv.size know atj
    have hdj : dstOf ops j = oj.dst := by simp [dstOf, hoj]
    have next : ∀ (v : Value) (W' : World), After F (Ls (j + 1)) (eff.contains j) W W' → (S j).ok v W' → wpAny P .any ops Q' (m + (ops.size - n)) (listed.setIfInBounds j true) (b.put oj.dst v) W' := fun v W' haf hok => by
      have hk : Keeps F W W' := by
        cases hce : eff.contains j with
        | false => exact (haf.1 hce).widen
        | true => exact (haf.2 hce).1
      have hlin : ∃ q, q ≤ n ∧ (∀ e, e < n → eff.contains e = true → ((listed.setIfInBounds j true).getD e false = true ↔ e < q)) ∧ Ls q W' := by
        cases hce : eff.contains j with
        | false =>
          refine ⟨p, hp, fun e he hec => ?_, hLg p hp W W' (haf.1 hce) hpl⟩
          have hne : j ≠ e := fun h => by subst h; rw [hce] at hec; cases hec
          rw [getD_set_ne false hne]
          exact hpe e he hec
        | true =>
          refine ⟨j + 1, by omega, fun e he hec => ?_, (haf.2 hce).2⟩
          by_cases hej : j = e
          · subst hej
            simp [hjus]
          · rw [getD_set_ne false hej]
            constructor
            · intro hel
              have h1 := (hpe e he hec).1 hel
              have h2 : ¬ j < p := fun h => by have := (hpe j hjn hce).2 h; rw [hjf] at this; cases this
              omega
            · intro hlt
              exact hupon e ((Fi.effs e (by simpa using hec)).2 j (by simpa using hce) (by omega))
      refine wpAny_rel Fi hR hG hE hLg hend m _ _ _ ⟨inv.head.set hj hjn, inv.keeps.trans hk, hlin, by rw [put_size]; exact inv.size, by rw [put_defers]; exact inv.defers, fun x hx hxl t hd => ?_, fun t ht => ?_⟩ ?_
      · by_cases hxj : x = j
        · subst hxj
          rw [hdj] at hd
          rw [hd]
          exact ⟨v, slot_put (by rw [inv.size]; exact (Fi.dist x hx t (hdj.trans hd)).1), hok⟩
        · rw [getD_set_ne false (Ne.symm hxj)] at hxl
          obtain ⟨u, hu, huo⟩ := inv.done x hx hxl t hd
          refine ⟨u, ?_, Spec.ok_more (hG x hx) hk huo⟩
          rw [slot_put_other (fun e => ?_)]
          · exact hu
          · rcases Nat.lt_or_ge x j with h | h
            · exact (Fi.dist j hjn t (hdj.trans e)).2 x h hd
            · exact (Fi.dist x hx t hd).2 j (by omega) (hdj.trans e)
      · rw [slot_put_other (fun e => ht j hjn (by simp [hjus]) (hdj.trans e))]
        exact inv.fresh t fun x hx hxl hd => ht x hx (getD_set_true hxl) hd
      · have := (cnt_set (listed := listed) (i := j) n hjus hjf).2 hjn
        omega
    unfold wpOp
    simp only [hoj]
    split
    · rename_i hw
      rw [if_pos hw] at hrun
      left
      refine wp_widen (Oper.wp_mono (fun b' W' h => ?_) hrun)
      obtain ⟨v, e, hk, hok⟩ := h
      subst e
      exact next v W' hk hok
    · rename_i hw
      rw [if_neg hw] at hrun
      exact next undef W ⟨fun _ => Keeps.refl _ _, fun he => ⟨Keeps.refl _ _, hrun.2 he⟩⟩ hrun.1

/-- ONE WALK IN THE TEXT'S ORDER. n: how many operations come in any order; behind them the rest, in the text's. F: the blocks that the operations of eff may turn; L₀: what is known of those at first. -/
theorem wp_region_eff {id : Nat} {Q' : Exit → Act → World → Prop} {a : Act} {l : List Oper} (n N : Nat) (eff : List Nat) (F : Nat → Prop) (L₀ : World → Prop) (hLg : LGrows L₀) (hL₀ : L₀ w) (hm : P.follows .mixedOrders = true) (hN : a.tmps.size = N) (hB : relB l.toArray n N eff = true)
    (h : wpRel P l.toArray F w eff (fun done L a' => ∀ x : Lat F w, L x.w → bindAll x.w done a' (fun a'' => wpList P l.toArray Q' (l.drop n) a'' x.w)) (l.take n) 0 [] L₀ a) : (Code.region id l.toArray true).wp P Q' a w := by
  subst hN
  have Fi := relB_fine hB
  have hln : (l.take n).length = n := by have := Fi.le; simp at this; simp; omega
  obtain ⟨S, Ls, done, a', _, hL, hR, hE, hG, T, hQ⟩ := chain (a₀ := a) (n := n) Fi.sel Fi.dist (l.take n) 0 (fun _ => .ex undef) (fun _ => L₀) [] a (fun j hj => by
      rw [hln] at hj
      simp [List.getElem?_take, hj]) (by omega) ⟨rfl, rfl, fun j v t hj => absurd hj (by omega), fun j g t hj => absurd hj (by omega), fun _ _ => rfl, (fun p hp => (List.not_mem_nil hp).elim), fun j hj => absurd hj (by omega)⟩ hLg h
  rw [hln, Nat.zero_add] at *
  refine wp_region_any hm ?_
  have inv0 : RInv l.toArray F w eff S Ls a n (Array.replicate l.toArray.size false) a { w with drawn := w.drawn + 1 } :=
    ⟨⟨by simp, fun j oj _ hl => (by rw [getD_replicate_false] at hl; cases hl), fun t _ ht => getD_in (by simpa using ht) (getD_replicate_false _ _)⟩, (Keeps.refl _ w).drew,
      ⟨0, Nat.zero_le _, fun e _ _ => (by rw [getD_replicate_false]; simp), by rw [hL 0 (Nat.le_refl _)]; exact hLg w _ (Keeps.refl _ w).drew hL₀⟩, rfl, rfl,
      fun j _ hl => (by rw [getD_replicate_false] at hl; cases hl), fun _ _ => rfl⟩
  have hc : cnt (Array.replicate l.toArray.size false) n = n := by
    have : ∀ k, cnt (Array.replicate l.toArray.size false) k = k := fun k => by
      induction k with
      | zero => rfl
      | succ k ih => simp only [cnt, ih, getD_replicate_false]; simp
    exact this n
  have := wpAny_rel (Q' := Q') Fi (fun i o hi ho => hR i o (Nat.zero_le _) hi ho) T.grows (fun i hi => hE i (Nat.zero_le _) hi) (fun i hi => hG i (Nat.zero_le _) hi) (fun b W inv => ?_) n _ _ _ inv0 hc
  · rwa [show n + (l.toArray.size - n) = l.toArray.size by have := Fi.le; omega] at this
  · have know : ∀ t, Knows l.toArray S a n b W t := fun t =>
      ⟨fun j hj hd => inv.done j hj (by simp [canon, List.getElem?_append, hj]) t hd, fun hno => inv.fresh t fun j hj _ hd => hno j hj hd⟩
    have hLn : Ls n W := by
      obtain ⟨p, hp, hpe, hpl⟩ := inv.lin
      have e1 := lin_same (fun i hi => hE i (Nat.zero_le _) hi) (n - p) p (by omega) (fun i h1 h2 => by
        cases hce : eff.contains i with
        | false => rfl
        | true =>
          have hin : i < n := by omega
          have hil : (canon n l.toArray.size).getD i false = true := by simp [canon, List.getElem?_append, hin]
          have := (hpe i (by omega) hce).1 hil
          omega)
      rw [show p + (n - p) = n by omega] at e1
      rw [e1]
      exact hpl
    obtain ⟨a₂, h1, h2, h0, h3, h4, h5⟩ := bindAll_inst T know inv.size done a' (fun p hp => hp) T.size (hQ ⟨W, inv.keeps⟩ hLn)
    have e : a₂ = b := by
      have et : a₂.tmps = b.tmps := by
        refine Array.ext_getElem? fun t => ?_
        by_cases ht : ∃ p ∈ done, p.1 = t
        · obtain ⟨p, hp, rfl⟩ := ht
          exact h4 p hp
        · have hc : ∀ p ∈ done, p.1 ≠ t := fun p hp e => ht ⟨p, hp, e⟩
          rw [h5 t hc]
          exact T.same hc (know t)
      have ed : a₂.defers = b.defers := by rw [h0, T.defers, inv.defers]
      cases a₂; cases b
      simp only at et ed
      subst et ed
      rfl
    rw [← e]
    simpa using h1
/-- .. where nothing old is turned. -/
theorem wp_region_rel {id : Nat} {Q' : Exit → Act → World → Prop} {a : Act} {l : List Oper} (n N : Nat) (hm : P.follows .mixedOrders = true) (hN : a.tmps.size = N) (hB : relB l.toArray n N [] = true)
    (h : wpRel P l.toArray Nope w [] (fun done L a' => ∀ x : Lat Nope w, L x.w → bindAll x.w done a' (fun a'' => wpList P l.toArray Q' (l.drop n) a'' x.w)) (l.take n) 0 [] (fun _ => True) a) : (Code.region id l.toArray true).wp P Q' a w :=
  wp_region_eff n N [] Nope (fun _ => True) (fun _ _ _ _ => trivial) trivial hm hN hB h

/-- What follows behind a variable. -/
theorem wp_hand_eff {o : Oper} {a : Act} {W : World} {g : Rel} {L : World → Prop} (h : ∀ K : Act → World → Prop, (∀ v W' a₂, a.put o.dst v = a₂ → g v W' → Keeps F W W' → L W' → K a₂ W') → o.wp P a W K (fun _ _ _ => False)) :
    o.wp P a W (fun a'' W' => ∃ v, a'' = a.put o.dst v ∧ (Keeps F W W' ∧ L W') ∧ g v W') (fun _ _ _ => False) :=
  h _ fun v W' a₂ e hg hk hl => ⟨v, e.symm, ⟨hk, hl⟩, hg⟩
theorem wp_hand {o : Oper} {a : Act} {W : World} {g : Rel} (h : ∀ K : Act → World → Prop, (∀ v W' a₂, a.put o.dst v = a₂ → g v W' → Keeps Nope W W' → K a₂ W') → o.wp P a W K (fun _ _ _ => False)) :
    o.wp P a W (fun a'' W' => ∃ v, a'' = a.put o.dst v ∧ Keeps Nope W W' ∧ g v W') (fun _ _ _ => False) :=
  h _ fun v W' a₂ e hg hk => ⟨v, e.symm, hk, hg⟩
end
end Go.Proofs.Ytheaeddojcebjaa
