/-
  Functions, told by what they are given and what they give (FnOk), and their calls.
-/
import Derived.Test.YtheaeddojcebjaaK14
set_option linter.unusedVariables false
set_option linter.unusedSimpArgs false
namespace Go.Proofs.Ytheaeddojcebjaa
open Go.RowKit

/-- Objects by other numbers. -/
def C.ren1 (φ : Nat → Nat) : C → C
  | .t d => .t d
  | .nilp => .nilp
  | .ptr id off => .ptr (φ id) off
  | .sl id off n => .sl (φ id) off n
  | .el id i k => .el (φ id) i k
  | .im cs => .im cs
  | .mp id => .mp (φ id)
  | .fn f cs => .fn f cs
def C.ren (φ : Nat → Nat) : C → C
  | .fn f cs => .fn f (cs.map (C.ren1 φ))
  | c => c.ren1 φ
def E.ren (φ : Nat → Nat) : E → E
  | .c x => .c (x.ren φ)
  | .agg cs => .agg (cs.map (C.ren φ))
def V.ren (φ : Nat → Nat) : V → V
  | .e x => .e (x.ren φ)
  | .tup es => .tup (es.map (E.ren φ))
  | .u => .u
def Ob.ren (φ : Nat → Nat) : Ob → Ob
  | .dead => .dead
  | .box cs => .box (cs.map (C.ren φ))
  | .arr sz rows => .arr sz rows
  | .mp es => .mp (es.map fun e => (e.1.ren φ, e.2.ren φ))
  | .opq R => .opq R
def pos : List Nat → Nat → Option Nat
  | [], _ => none
  | x :: l, i => bif Nat.beq x i then some 0 else match pos l i with
    | some j => some (j + 1)
    | none => none
/-- What a callee sees: the objects σ by their places, the lists τ as data. -/
def C.bk1 (σ τ : List Nat) (hl : List Ob) : C → Option C
  | .t d => some (.t d)
  | .nilp => some .nilp
  | .ptr id off => match pos σ id with
    | some j => some (.ptr j off)
    | none => none
  | .sl id off n => match pos σ id with
    | some j => some (.sl j off n)
    | none => bif τ.contains id then (match hx hl id with
      | .arr sz rows => some (.t (.ls sz n (rows.drop off)))
      | _ => none) else none
  | .el id i k => match pos σ id with
    | some j => some (.el j i k)
    | none => none
  | .im cs => some (.im cs)
  | .mp id => match pos σ id with
    | some j => some (.mp j)
    | none => none
  | .fn _ _ => none
def C.bk (σ τ : List Nat) (hl : List Ob) : C → Option C
  | .fn f cs => match listM (C.bk1 σ τ hl) cs with
    | some r => some (.fn f r)
    | none => none
  | c => c.bk1 σ τ hl
def E.bk (σ τ : List Nat) (hl : List Ob) : E → Option E
  | .c x => match x.bk σ τ hl with
    | some r => some (.c r)
    | none => none
  | .agg cs => match listM (C.bk σ τ hl) cs with
    | some r => some (.agg r)
    | none => none
def V.bk (σ τ : List Nat) (hl : List Ob) : V → Option V
  | .e x => match x.bk σ τ hl with
    | some r => some (.e r)
    | none => none
  | .tup es => match listM (E.bk σ τ hl) es with
    | some r => some (.tup r)
    | none => none
  | .u => none
def Ob.bk (σ : List Nat) (hl : List Ob) : Ob → Option Ob
  | .dead => some .dead
  | .box cs => match listM (C.bk σ [] hl) cs with
    | some r => some (.box r)
    | none => none
  | .arr sz rows => some (.arr sz rows)
  | .mp es => match listM (fun (e : E × E) => match e.1.bk σ [] hl, e.2.bk σ [] hl with | some k, some v => some (k, v) | _, _ => none) es with
    | some r => some (.mp r)
    | none => none
  | .opq R => some (.opq R)

section
variable {β : Type}
/-- What is to be known before lists are told as data: that they are as long as they are shown. -/
def C.vw1 (σ τ : List Nat) (hl : List Ob) (c : C) (acc : Prop) (k : Prop → β) : β := match c with
  | .sl id off n => match pos σ id with
    | some _ => k acc
    | none => bif τ.contains id then (match hx hl id with
      | .arr sz rows => k (off + n ≤ rows.length ∧ acc)
      | _ => k acc) else k acc
  | _ => k acc
def vw1s (σ τ : List Nat) (hl : List Ob) : List C → Prop → (Prop → β) → β
  | [], acc, k => k acc
  | c :: l, acc, k => vw1s σ τ hl l acc fun q => c.vw1 σ τ hl q k
def C.vw (σ τ : List Nat) (hl : List Ob) (c : C) (acc : Prop) (k : Prop → β) : β := match c with
  | .fn f cs => vw1s σ τ hl cs acc k
  | c => c.vw1 σ τ hl acc k
def vwCs (σ τ : List Nat) (hl : List Ob) : List C → Prop → (Prop → β) → β
  | [], acc, k => k acc
  | c :: l, acc, k => vwCs σ τ hl l acc fun q => c.vw σ τ hl q k
def E.vw (σ τ : List Nat) (hl : List Ob) (e : E) (acc : Prop) (k : Prop → β) : β := match e with
  | .c x => x.vw σ τ hl acc k
  | .agg cs => vwCs σ τ hl cs acc k
def vwEs (σ τ : List Nat) (hl : List Ob) : List E → Prop → (Prop → β) → β
  | [], acc, k => k acc
  | c :: l, acc, k => vwEs σ τ hl l acc fun q => c.vw σ τ hl q k
def V.vw (σ τ : List Nat) (hl : List Ob) (v : V) (acc : Prop) (k : Prop → β) : β := match v with
  | .e x => x.vw σ τ hl acc k
  | .tup es => vwEs σ τ hl es acc k
  | .u => k acc
def vwVs (σ τ : List Nat) (hl : List Ob) : List V → Prop → (Prop → β) → β
  | [], acc, k => k acc
  | c :: l, acc, k => vwVs σ τ hl l acc fun q => c.vw σ τ hl q k
end
section
variable {σ τ : List Nat} {hl : List Ob}
theorem vw1_k {β : Type} (c : C) (q : Prop) (k : Prop → β) : c.vw1 σ τ hl q k = k (c.vw1 σ τ hl q id) := by
  unfold C.vw1
  split
  · split
    · rfl
    · cases τ.contains _ <;> simp only [cond_true, cond_false]
      · rfl
      · split <;> rfl
  · rfl
theorem vw1_ok (c : C) (q : Prop) : c.vw1 σ τ hl q id → c.vw1 σ τ hl True id ∧ q := by
  unfold C.vw1
  split
  · split
    · intro h; exact ⟨trivial, h⟩
    · cases τ.contains _ <;> simp only [cond_true, cond_false]
      · intro h; exact ⟨trivial, h⟩
      · split
        · rintro ⟨h1, h2⟩; exact ⟨⟨h1, trivial⟩, h2⟩
        · intro h; exact ⟨trivial, h⟩
  · intro h; exact ⟨trivial, h⟩
theorem vw1s_k {β : Type} : ∀ (l : List C) (q : Prop) (k : Prop → β), vw1s σ τ hl l q k = k (vw1s σ τ hl l q id)
  | [], q, k => rfl
  | c :: l, q, k => by
    unfold vw1s
    rw [vw1s_k l q (fun q => c.vw1 σ τ hl q k), vw1s_k l q (fun q => c.vw1 σ τ hl q id), vw1_k]
theorem vw1s_ok : ∀ (l : List C) (q : Prop), vw1s σ τ hl l q id → (∀ c ∈ l, c.vw1 σ τ hl True id) ∧ q
  | [], q, h => ⟨fun _ hc => (nomatch hc), h⟩
  | c :: l, q, h => by
    unfold vw1s at h
    rw [vw1s_k] at h
    obtain ⟨h1, h2⟩ := vw1_ok c _ h
    obtain ⟨h3, h4⟩ := vw1s_ok l q h2
    exact ⟨fun x hx => (List.mem_cons.1 hx).elim (fun e => e ▸ h1) (h3 x), h4⟩
theorem vwC_k {β : Type} (c : C) (q : Prop) (k : Prop → β) : c.vw σ τ hl q k = k (c.vw σ τ hl q id) := by
  cases c <;> simp only [C.vw] <;> first | exact vw1s_k _ _ _ | exact vw1_k _ _ _
theorem vwC_ok (c : C) (q : Prop) : c.vw σ τ hl q id → c.vw σ τ hl True id ∧ q := by
  cases c with
  | fn f cs =>
    intro h
    simp only [C.vw] at h ⊢
    obtain ⟨h1, h2⟩ := vw1s_ok cs q h
    refine ⟨?_, h2⟩
    clear h
    induction cs with
    | nil => trivial
    | cons c l ih =>
      unfold vw1s
      rw [vw1s_k]
      have h3 := ih (fun c hc => h1 c (by simp [hc]))
      have : (vw1s σ τ hl l True id) = True := eq_true h3
      rw [this]
      exact h1 c (by simp)
  | _ => intro h; simp only [C.vw] at h ⊢; exact vw1_ok _ q h
theorem vwCs_k {β : Type} : ∀ (l : List C) (q : Prop) (k : Prop → β), vwCs σ τ hl l q k = k (vwCs σ τ hl l q id)
  | [], q, k => rfl
  | c :: l, q, k => by
    unfold vwCs
    rw [vwCs_k l q (fun q => c.vw σ τ hl q k), vwCs_k l q (fun q => c.vw σ τ hl q id), vwC_k]
theorem vwCs_ok : ∀ (l : List C) (q : Prop), vwCs σ τ hl l q id → (∀ c ∈ l, c.vw σ τ hl True id) ∧ q
  | [], q, h => ⟨fun _ hc => (nomatch hc), h⟩
  | c :: l, q, h => by
    unfold vwCs at h
    rw [vwCs_k] at h
    obtain ⟨h1, h2⟩ := vwC_ok c _ h
    obtain ⟨h3, h4⟩ := vwCs_ok l q h2
    exact ⟨fun x hx => (List.mem_cons.1 hx).elim (fun e => e ▸ h1) (h3 x), h4⟩
theorem vwE_k {β : Type} (c : E) (q : Prop) (k : Prop → β) : c.vw σ τ hl q k = k (c.vw σ τ hl q id) := by
  cases c <;> simp only [E.vw] <;> first | exact vwC_k _ _ _ | exact vwCs_k _ _ _
/-- What is asked of a struct's or a single cell's. -/
def E.Vw (σ τ : List Nat) (hl : List Ob) : E → Prop
  | .c x => x.vw σ τ hl True id
  | .agg cs => ∀ x ∈ cs, x.vw σ τ hl True id
theorem vwE_ok (c : E) (q : Prop) : c.vw σ τ hl q id → c.Vw σ τ hl ∧ q := by
  cases c with
  | c c => exact vwC_ok c q
  | agg cs => exact vwCs_ok cs q
theorem vwEs_k {β : Type} : ∀ (l : List E) (q : Prop) (k : Prop → β), vwEs σ τ hl l q k = k (vwEs σ τ hl l q id)
  | [], q, k => rfl
  | c :: l, q, k => by
    unfold vwEs
    rw [vwEs_k l q (fun q => c.vw σ τ hl q k), vwEs_k l q (fun q => c.vw σ τ hl q id), vwE_k]
theorem vwEs_ok : ∀ (l : List E) (q : Prop), vwEs σ τ hl l q id → (∀ c ∈ l, c.Vw σ τ hl) ∧ q
  | [], q, h => ⟨fun _ hc => (nomatch hc), h⟩
  | c :: l, q, h => by
    unfold vwEs at h
    rw [vwEs_k] at h
    obtain ⟨h1, h2⟩ := vwE_ok c _ h
    obtain ⟨h3, h4⟩ := vwEs_ok l q h2
    exact ⟨fun x hx => (List.mem_cons.1 hx).elim (fun e => e ▸ h1) (h3 x), h4⟩
def V.Vw (σ τ : List Nat) (hl : List Ob) : V → Prop
  | .e x => x.Vw σ τ hl
  | .tup es => ∀ x ∈ es, x.Vw σ τ hl
  | .u => True
theorem vwV_k {β : Type} (c : V) (q : Prop) (k : Prop → β) : c.vw σ τ hl q k = k (c.vw σ τ hl q id) := by
  cases c <;> simp only [V.vw] <;> first | exact vwE_k _ _ _ | exact vwEs_k _ _ _ | rfl
theorem vwV_ok (c : V) (q : Prop) : c.vw σ τ hl q id → c.Vw σ τ hl ∧ q := by
  cases c with
  | e c => exact vwE_ok c q
  | tup cs => exact vwEs_ok cs q
  | u => exact fun h => ⟨trivial, h⟩
theorem vwVs_k {β : Type} : ∀ (l : List V) (q : Prop) (k : Prop → β), vwVs σ τ hl l q k = k (vwVs σ τ hl l q id)
  | [], q, k => rfl
  | c :: l, q, k => by
    unfold vwVs
    rw [vwVs_k l q (fun q => c.vw σ τ hl q k), vwVs_k l q (fun q => c.vw σ τ hl q id), vwV_k]
theorem vwVs_ok : ∀ (l : List V) (q : Prop), vwVs σ τ hl l q id → (∀ c ∈ l, c.Vw σ τ hl) ∧ q
  | [], q, h => ⟨fun _ hc => (nomatch hc), h⟩
  | c :: l, q, h => by
    unfold vwVs at h
    rw [vwVs_k] at h
    obtain ⟨h1, h2⟩ := vwV_ok c _ h
    obtain ⟨h3, h4⟩ := vwVs_ok l q h2
    exact ⟨fun x hx => (List.mem_cons.1 hx).elim (fun e => e ▸ h1) (h3 x), h4⟩
/-- The conditions of values, as they are asked. -/
theorem vwVs_get {l : List V} {p : Prop} (h : vwVs σ τ hl l True some = some p) (hp : p) : ∀ c ∈ l, c.Vw σ τ hl := by
  rw [vwVs_k] at h
  cases h
  exact (vwVs_ok l True hp).1
theorem vwV_get {v : V} {p : Prop} (h : v.vw σ τ hl True some = some p) (hp : p) : v.Vw σ τ hl := by
  rw [vwV_k] at h
  cases h
  exact (vwV_ok v True hp).1
end
theorem pos_ok : ∀ {σ : List Nat} {i j : Nat}, pos σ i = some j → σ[j]? = some i
  | [], i, j, h => by cases h
  | x :: l, i, j, h => by
    unfold pos at h
    cases hb : Nat.beq x i with
    | true => rw [hb] at h; cases h; simp [Nat.eq_of_beq_eq_true hb]
    | false =>
      rw [hb] at h
      simp only [cond_false] at h
      split at h
      · rename_i j' hj; cases h; simpa using pos_ok hj
      · cases h
theorem nodup_at : ∀ {l : List Nat} {i j a : Nat}, l.Nodup → l[i]? = some a → l[j]? = some a → i = j
  | [], i, j, a, _, h, _ => by simp at h
  | x :: l, i, j, a, hn, hi, hj => by
    obtain ⟨h1, h2⟩ := List.nodup_cons.1 hn
    cases i with
    | zero => cases j with
      | zero => rfl
      | succ j => simp at hi hj; subst hi; exact absurd (List.mem_of_getElem? hj) h1
    | succ i => cases j with
      | zero => simp at hi hj; subst hj; exact absurd (List.mem_of_getElem? hi) h1
      | succ j => simp at hi hj; rw [nodup_at h2 hi hj]
/-- The ghosts that a callee sees. -/
def Gh.sub (g : Gh) (h : Nat → Ob) (σ τ : List Nat) : Gh :=
  { I := fun b => g.I b ∨ Tch g h τ b, μ := fun j => (σ[j]?).bind g.μ, fp := fun j => match σ[j]? with | some i => g.fp i | none => fun _ => False }
section
variable {w : World} {g : Gh} {h : Nat → Ob} {hl : List Ob} {σ τ : List Nat}
theorem Gh.sub_μ {i j : Nat} (hj : σ[j]? = some i) : (g.sub h σ τ).μ j = g.μ i := by simp [Gh.sub, hj]
theorem bk1_ok (hR : Rl w g h) (ht : ∀ i ∈ τ, h i = hx hl i) {v : Value} {c c' : C} (hv : RC w g v c) (hk : c.vw1 σ τ hl True id) (hb : c.bk1 σ τ hl = some c') : RC w (g.sub h σ τ) v c' := by
  have hs : Same g.I w w := fun _ _ => rfl
  cases hv with
  | t hd => cases hb; exact .t (hd.more hs (fun _ h => .inl h))
  | nilp => cases hb; exact .nilp
  | ptr off hm hn =>
    simp only [C.bk1] at hb
    split at hb
    · rename_i j hj; cases hb; exact .ptr off ((Gh.sub_μ (pos_ok hj)).trans hm) hn
    · cases hb
  | sl off n hm hn ho =>
    rename_i id l
    simp only [C.bk1] at hb
    simp only [C.vw1] at hk
    split at hb
    · rename_i j hj; cases hb; exact .sl off n ((Gh.sub_μ (pos_ok hj)).trans hm) hn ho
    · rename_i hpn
      rw [hpn] at hk
      cases hc : τ.contains id with
      | false => rw [hc] at hb; cases hb
      | true =>
        rw [hc] at hb hk
        simp only [cond_true] at hb hk
        split at hb
        · rename_i sz rows hid
          rw [hid] at hk
          have hle : off + n ≤ rows.length := hk.1
          · cases hb
            have hit : id ∈ τ := by simpa using hc
            have hob : h id = .arr sz rows := (ht id hit).trans hid
            have hlive : (h id).live = true := by rw [hob]; rfl
            obtain ⟨hsz, l', m1, m2, hcase⟩ := hob ▸ hR.objs id hlive
            obtain rfl : l' = l := Option.some.inj (m1.symm.trans hm)
            rcases hcase with ⟨hc', _⟩ | ⟨_, hle2, hmx, m6, arr, ty, m3, m4, m5⟩
            · rw [hc'] at hn; cases hn
            · refine .t (.ls l'.blk (off * l'.sz) sz n (l'.tot - off) (rows.drop off) (fun i j => (arr[(off + i) * sz + j]?).getD undef) (.inr ⟨id, hit, hlive, (m6 _).2 rfl⟩) (by rw [List.length_drop]; omega) (by rw [List.length_drop]; omega) (by omega) hsz (fun i r hr => ?_) (fun i r j t h1 h2 => ?_) (fun i r j t h1 h2 => ?_))
              · rw [List.getElem?_drop] at hr; exact (m5 _ r hr).1
              · rw [List.getElem?_drop] at h1
                obtain ⟨u, u1, u2⟩ := (m5 _ r h1).2 j t h2
                rw [m2, ← Nat.add_assoc, ← Nat.add_mul, cell_of_row _ l'.blk _ arr ty _ m3, u1]
                rfl
              · rw [List.getElem?_drop] at h1
                obtain ⟨u, u1, u2⟩ := (m5 _ r h1).2 j t h2
                rw [u1]
                exact u2.more hs (fun _ h => .inl h)
        · cases hb
  | slz off A hm ho =>
    rename_i id l
    simp only [C.bk1] at hb
    split at hb
    · rename_i j hj; cases hb; exact .slz off A ((Gh.sub_μ (pos_ok hj)).trans hm) ho
    · cases hc : τ.contains id with
      | false => rw [hc] at hb; cases hb
      | true =>
        rw [hc] at hb
        simp only [cond_true] at hb
        split at hb
        · rename_i sz rows hid
          · cases hb
            have hit : id ∈ τ := by simpa using hc
            have hob : h id = .arr sz rows := (ht id hit).trans hid
            have hlive : (h id).live = true := by rw [hob]; rfl
            obtain ⟨hsz, l', m1, m2, hcase⟩ := hob ▸ hR.objs id hlive
            obtain rfl : l' = l := Option.some.inj (m1.symm.trans hm)
            have hdr : rows.drop off = [] := by
              rcases hcase with ⟨_, _, hr, _⟩ | ⟨_, hle2, _⟩
              · rw [hr]; simp
              · exact List.drop_eq_nil_of_le (by omega)
            rw [hdr]
            exact .t (.lsn A sz)
        · cases hb
  | el i k hm hn =>
    simp only [C.bk1] at hb
    split at hb
    · rename_i j hj; cases hb; exact .el i k ((Gh.sub_μ (pos_ok hj)).trans hm) hn
    · cases hb
  | im b o cs us hI hc hr => cases hb; exact .im b o cs us (.inl hI) hc (fun j t hj => (hr j t hj).more hs (fun _ h => .inl h))
  | mp hm =>
    simp only [C.bk1] at hb
    split at hb
    · rename_i j hj; cases hb; exact .mp ((Gh.sub_μ (pos_ok hj)).trans hm)
    · cases hb
  | fn f caps cs hsz hc => cases hb
theorem bk_ok (hR : Rl w g h) (ht : ∀ i ∈ τ, h i = hx hl i) {v : Value} {c c' : C} (hv : RC w g v c) (hk : c.vw σ τ hl True id) (hb : c.bk σ τ hl = some c') : RC w (g.sub h σ τ) v c' := by
  cases c with
  | fn f cs =>
    simp only [C.bk] at hb
    split at hb
    · rename_i r hr
      cases hb
      obtain ⟨l1, l2⟩ := listM_ok hr
      cases hv with
      | fn f caps cs hsz hc =>
        refine .fn f caps r (hsz.trans l1) fun j v c hv hc' => ?_
        obtain ⟨a, a1, a2⟩ := l2 j c hc'
        exact bk1_ok hR ht (hc j v a hv a1) ((vw1s_ok cs True hk).1 a (List.mem_of_getElem? a1)) a2
    · cases hb
  | _ => exact bk1_ok hR ht hv hk hb
theorem bkE_ok (hR : Rl w g h) (ht : ∀ i ∈ τ, h i = hx hl i) {v : Value} {e e' : E} (hv : RE w g v e) (hk : e.Vw σ τ hl) (hb : e.bk σ τ hl = some e') : RE w (g.sub h σ τ) v e' := by
  cases hv with
  | c hc =>
    simp only [E.bk] at hb
    split at hb
    · rename_i r hr; cases hb; exact .c (bk_ok hR ht hc hk hr)
    · cases hb
  | agg arr cs hs hc =>
    simp only [E.bk] at hb
    split at hb
    · rename_i r hr
      cases hb
      obtain ⟨l1, l2⟩ := listM_ok hr
      refine .agg arr r (hs.trans l1) fun j c hj => ?_
      obtain ⟨a, a1, a2⟩ := l2 j c hj
      obtain ⟨u, u1, u2⟩ := hc j a a1
      exact ⟨u, u1, bk_ok hR ht u2 (hk a (List.mem_of_getElem? a1)) a2⟩
    · cases hb
theorem bkV_ok (hR : Rl w g h) (ht : ∀ i ∈ τ, h i = hx hl i) {v : Value} {x x' : V} (hv : RV w g v x) (hk : x.Vw σ τ hl) (hb : x.bk σ τ hl = some x') : RV w (g.sub h σ τ) v x' := by
  cases hv with
  | e he =>
    simp only [V.bk] at hb
    split at hb
    · rename_i r hr; cases hb; exact .e (bkE_ok hR ht he hk hr)
    · cases hb
  | tup arr es hs hc =>
    simp only [V.bk] at hb
    split at hb
    · rename_i r hr
      cases hb
      obtain ⟨l1, l2⟩ := listM_ok hr
      refine .tup arr r (hs.trans l1) fun j c hj => ?_
      obtain ⟨a, a1, a2⟩ := l2 j c hj
      obtain ⟨u, u1, u2⟩ := hc j a a1
      exact ⟨u, u1, bkE_ok hR ht u2 (hk a (List.mem_of_getElem? a1)) a2⟩
    · cases hb
  | u => cases hb
theorem bk_tau {c c' : C} (hb : c.bk σ [] hl = some c') (τ : List Nat) : c.bk σ τ hl = some c' := by
  have h1 : ∀ {c c' : C}, c.bk1 σ [] hl = some c' → c.bk1 σ τ hl = some c' := by
    intro c c' hb
    cases c <;> simp only [C.bk1] at hb ⊢ <;> try exact hb
    split at hb
    · exact hb
    · simp at hb
  cases c with
  | fn f cs =>
    simp only [C.bk] at hb ⊢
    split at hb
    · rename_i r hr
      have : listM (C.bk1 σ τ hl) cs = some r := by
        clear hb
        induction cs generalizing r with
        | nil => simpa [listM] using hr
        | cons c cs ih =>
          unfold listM at hr ⊢
          cases hc : c.bk1 σ [] hl with
          | none => simp [hc] at hr
          | some x => cases hl' : listM (C.bk1 σ [] hl) cs with
            | none => simp [hc, hl'] at hr
            | some y => simp [hc, hl'] at hr; simp [h1 hc, ih _ hl', hr]
      rw [this]; exact hb
    · cases hb
  | _ => simp only [C.bk] at hb ⊢; exact h1 hb
theorem bkE_tau {e e' : E} (hb : e.bk σ [] hl = some e') (τ : List Nat) : e.bk σ τ hl = some e' := by
  cases e with
  | c x =>
    simp only [E.bk] at hb ⊢
    split at hb
    · rename_i r hr; rw [bk_tau hr τ]; exact hb
    · cases hb
  | agg cs =>
    simp only [E.bk] at hb ⊢
    split at hb
    · rename_i r hr
      have : listM (C.bk σ τ hl) cs = some r := by
        clear hb
        induction cs generalizing r with
        | nil => simpa [listM] using hr
        | cons c cs ih =>
          unfold listM at hr ⊢
          cases hc : c.bk σ [] hl with
          | none => simp [hc] at hr
          | some x => cases hl' : listM (C.bk σ [] hl) cs with
            | none => simp [hc, hl'] at hr
            | some y => simp [hc, hl'] at hr; simp [bk_tau hc τ, ih _ hl', hr]
      rw [this]; exact hb
    · cases hb
theorem bk_vw {c c' : C} (hb : c.bk σ [] hl = some c') (τ : List Nat) : c.vw σ τ hl True id := by
  have h1 : ∀ {c c' : C}, c.bk1 σ [] hl = some c' → c.vw1 σ τ hl True id := by
    intro c c' hb
    cases c <;> simp only [C.bk1] at hb <;> simp only [C.vw1] <;> try trivial
    split at hb
    · trivial
    · simp at hb
  cases c with
  | fn f cs =>
    simp only [C.bk] at hb
    split at hb
    · rename_i r hr
      obtain ⟨l1, l2⟩ := listM_ok hr
      simp only [C.vw]
      have hall : ∀ c ∈ cs, c.vw1 σ τ hl True id := fun c hc => by
        obtain ⟨j, hj, rfl⟩ := List.getElem_of_mem hc
        obtain ⟨a, a1, a2⟩ := l2 j (r[j]'(by omega)) (List.getElem?_eq_getElem _)
        rw [List.getElem?_eq_getElem hj] at a1
        cases a1
        exact h1 a2
      clear hr l1 l2 hb
      induction cs with
      | nil => trivial
      | cons c l ih =>
        unfold vw1s
        rw [vw1s_k]
        have : (vw1s σ τ hl l True id) = True := eq_true (ih (fun c hc => hall c (by simp [hc])))
        rw [this]
        exact hall c (by simp)
    · cases hb
  | _ => simp only [C.bk] at hb; simp only [C.vw]; exact h1 hb
theorem bkE_vw {e e' : E} (hb : e.bk σ [] hl = some e') (τ : List Nat) : e.Vw σ τ hl := by
  cases e with
  | c x =>
    simp only [E.bk] at hb
    split at hb
    · rename_i r hr; exact bk_vw hr τ
    · cases hb
  | agg cs =>
    simp only [E.bk] at hb
    split at hb
    · rename_i r hr
      obtain ⟨l1, l2⟩ := listM_ok hr
      intro c hc
      obtain ⟨j, hj, rfl⟩ := List.getElem_of_mem hc
      obtain ⟨a, a1, a2⟩ := l2 j (r[j]'(by omega)) (List.getElem?_eq_getElem _)
      rw [List.getElem?_eq_getElem hj] at a1
      cases a1
      exact bk_vw a2 τ
    · cases hb
theorem bkO_ok (hR : Rl w g h) (ht : ∀ i ∈ τ, h i = hx hl i) {i j : Nat} (hj : σ[j]? = some i) {o o' : Ob} (ho : HO w g i o) (hb : o.bk σ hl = some o') : HO w (g.sub h σ τ) j o' := by
  have hs : Same g.I w w := fun _ _ => rfl
  have hf : (g.sub h σ τ).fp j = g.fp i := by simp [Gh.sub, hj]
  cases o with
  | dead => cases hb; trivial
  | box cs =>
    simp only [Ob.bk] at hb
    split at hb
    · rename_i r hr
      cases hb
      obtain ⟨l1, l2⟩ := listM_ok hr
      obtain ⟨l, arr, ty, m1, m2, m3, m4, m5, m6⟩ := ho
      refine ⟨l, arr, ty, (Gh.sub_μ hj).trans m1, m2, m3, m4.trans l1, fun q c hq => ?_, by rw [hf]; exact m6⟩
      obtain ⟨a, a1, a2⟩ := l2 q c hq
      obtain ⟨u, u1, u2⟩ := m5 q a a1
      exact ⟨u, u1, bk_ok hR ht u2 (bk_vw a2 τ) (bk_tau a2 τ)⟩
    · cases hb
  | arr sz rows =>
    cases hb
    obtain ⟨hsz, l, m1, m2, hcase⟩ := ho
    refine ⟨hsz, l, (Gh.sub_μ hj).trans m1, m2, ?_⟩
    rw [hf]
    rcases hcase with hc | ⟨c1, c2, c3, c4, arr, ty, c5, c6, c7⟩
    · exact .inl hc
    · refine .inr ⟨c1, c2, c3, c4, arr, ty, c5, c6, fun p r hr => ?_⟩
      obtain ⟨d1, d2⟩ := c7 p r hr
      refine ⟨d1, fun q t hq => ?_⟩
      obtain ⟨u, u1, u2⟩ := d2 q t hq
      exact ⟨u, u1, u2.more hs (fun _ h => .inl h)⟩
  | mp es =>
    simp only [Ob.bk] at hb
    split at hb
    · rename_i r hr
      cases hb
      obtain ⟨l1, l2⟩ := listM_ok hr
      obtain ⟨l, arr, ck, m1, m3, m4, m5, m6⟩ := ho
      refine ⟨l, arr, ck, (Gh.sub_μ hj).trans m1, m3, m4.trans l1, fun q c hq => ?_, by rw [hf]; exact m6⟩
      obtain ⟨a, a1, a2⟩ := l2 q c hq
      obtain ⟨u, u1, u2, u3⟩ := m5 q a a1
      split at a2
      · rename_i k v hk hv
        cases a2
        exact ⟨u, u1, bkE_ok hR ht u2 (bkE_vw hk τ) (bkE_tau hk τ), bkE_ok hR ht u3 (bkE_vw hv τ) (bkE_tau hv τ)⟩
      · cases a2
    · cases hb
  | opq R =>
    cases hb
    obtain ⟨hst, l, m1, m2, m3, m4⟩ := ho
    refine ⟨hst, l, (Gh.sub_μ hj).trans m1, m2, ?_, ?_⟩
    · rw [hf]; exact m3
    · rw [hf]; exact m4
theorem Rl.sub (hR : Rl w g h) (ht : ∀ i ∈ τ, h i = hx hl i) (hσ : ∀ i ∈ σ, h i = hx hl i) (hnd : σ.Nodup) (hdis : ∀ i ∈ σ, i ∉ τ) {hs : List Ob} (hb : listM (Ob.bk σ hl) (σ.map (hx hl)) = some hs) : Rl w (g.sub h σ τ) (hx hs) := by
  obtain ⟨l1, l2⟩ := listM_ok hb
  have key : ∀ j, (hx hs j).live = true → ∃ i o, σ[j]? = some i ∧ hs[j]? = some o ∧ hx hs j = o ∧ (h i).bk σ hl = some o ∧ (h i).live = true := by
    intro j hl'
    cases hj : hs[j]? with
    | none => simp [hx, hj, List.getD_eq_getElem?_getD] at hl'; cases hl'
    | some o =>
      obtain ⟨a, a1, a2⟩ := l2 j o hj
      rw [List.getElem?_map] at a1
      cases hi : σ[j]? with
      | none => simp [hi] at a1
      | some i =>
        simp [hi] at a1
        have hio : h i = hx hl i := hσ i (List.mem_of_getElem? hi)
        have ho : hx hs j = o := by simp [hx, hj, List.getD_eq_getElem?_getD]
        refine ⟨i, o, rfl, rfl, ho, by rw [hio, a1]; exact a2, ?_⟩
        rw [ho] at hl'
        rw [hio, a1]
        cases a with
        | dead => simp [Ob.bk] at a2; subst a2; cases hl'
        | _ => rfl
  refine ⟨fun j hl' => ?_, fun i j b hi hj hib hjb => ?_, fun j b hl' hf hI => ?_, fun b hb => ?_⟩
  · obtain ⟨i, o, e1, e2, e3, e4, e5⟩ := key j hl'
    rw [e3]
    exact bkO_ok hR ht e1 (hR.objs i e5) e4
  · obtain ⟨i', o, e1, _, _, _, e5⟩ := key i hi
    obtain ⟨j', o', f1, _, _, _, f5⟩ := key j hj
    have hij := hR.disj i' j' b e5 f5 (by simpa [Gh.sub, e1] using hib) (by simpa [Gh.sub, f1] using hjb)
    subst hij
    exact nodup_at hnd e1 f1
  · obtain ⟨i, o, e1, _, _, _, e5⟩ := key j hl'
    have hf' : g.fp i b := by simpa [Gh.sub, e1] using hf
    rcases hI with hI | ⟨k, k1, k2, k3⟩
    · exact hR.imm i b e5 hf' hI
    · have := hR.disj i k b e5 k2 hf' k3
      subst this
      exact hdis i (List.mem_of_getElem? e1) k1
  · rcases hb with hb | ⟨k, k1, k2, k3⟩
    · exact hR.lt b hb
    · exact (hR.objs k k2).lt k2 k3
end

/-- How a call leaves the ghosts. -/
structure Fr (w : World) (g : Gh) (hs : List Ob) (w' : World) (g' : Gh) (hs' : List Ob) : Prop where
  len : hs.length ≤ hs'.length
  keeps : Keeps (Own g (hx hs)) w w'
  I : ∀ b, g.I b → g'.I b
  In : ∀ b, g'.I b → g.I b ∨ Own g (hx hs) b ∨ w.heap.size ≤ b
  μ : ∀ i, i < hs.length → g'.μ i = g.μ i
  μn : ∀ i, hs'.length ≤ i → g'.μ i = none
  own : ∀ b, Own g' (hx hs') b → Own g (hx hs) b ∨ w.heap.size ≤ b
/-- What is given: arguments vs, objects hs; what comes of it: the result r, the objects hs'. -/
def FnOk (P : Program) (f : FuncId) (vs : List V) (hs : List Ob) (r : V) (hs' : List Ob) : Prop :=
  (∃ fn, P.funcs[f]? = some fn ∧ fn.body.isSome = true ∧ fn.name ≠ "runtime.NumGoroutine") ∧
  ∀ (w : World) (g : Gh) (args : Array Value), Rl w g (hx hs) → (∀ i, hs.length ≤ i → g.μ i = none) → args.size = vs.length → (∀ (j : Nat) v x, args[j]? = some v → vs[j]? = some x → RV w g v x) →
    Calls P f args w fun e w' => ∃ v g', e = .returned v ∧ RV w' g' v r ∧ Rl w' g' (hx hs') ∧ Fr w g hs w' g' hs'
theorem FnOk.wk {P : Program} {f : FuncId} {vs vs' : List V} {hs hs' : List Ob} {r r' : V} (h : FnOk P f vs' hs r hs') (h1 : LeVs vs vs') (h2 : V.le r r') : FnOk P f vs hs r' hs' := by
  obtain ⟨e1, e2⟩ := h1.at
  refine ⟨h.1, fun w g args hR hμ hs hv => (h.2 w g args hR hμ (hs.trans e1) fun j v x hj hx => ?_).mono fun e w' ⟨v, g', p1, p2, p3⟩ => ⟨v, g', p1, p2.le h2, p3⟩⟩
  obtain ⟨c, c1, c2⟩ := e2 j x hx
  exact (hv j v c hj c1).le c2
end Go.Proofs.Ytheaeddojcebjaa
