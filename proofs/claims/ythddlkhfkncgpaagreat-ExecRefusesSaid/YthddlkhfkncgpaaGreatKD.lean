/-
  Code, by rules (Tri), and functions out of their code.
  What is left out of sight, and functions out of their code.
  Rules for use: whole runs of operations at once, calls, guards.
  Rules for use, shorter: functions, regions as a whole, ends, joins, loops. Short words for functions that are written out.
  Rules for use: calls, places of lists, cases of a bit, what is left out of sight; lists of numbers and of bits.
  What the program has where the operations of maps stand; lookups, and the entries of a walk, by answers.
  Whole pieces of code at once: what is not told by the code (cases, calls' answers, what stands at a place) is handed in as a list.
  Whole pieces of code at once, all roads: what is asked is one sentence; the answers are a tree.
  Regions with operations of which more than one thing may come: the step of a walk through a map; whether a list is nil.
  A map's list taken out of it as an object of its own, and put back: the world stays as it is.
  What was shown of a law, as its row asks for it.
-/
import Derived.Test.YthddlkhfkncgpaaGreatKC
import Derived.Scope
set_option linter.unusedVariables false
set_option linter.unusedSimpArgs false
namespace Go.Proofs.YthddlkhfkncgpaaGreat
open Go.RowKit

/-- Where one is: what the temporaries hold, what the objects are. -/
def At (N n0 : Nat) (w0 : World) (g0 : Gh) (h0 : Nat → Ob) (df : List Deferred) (a : Act) (w : World) (ρ : Env) (hl : List Ob) : Prop :=
  a.tmps.size = N ∧ a.defers = df ∧ n0 ≤ hl.length ∧ ∃ g, Rl w g (hx hl) ∧ (∀ i, hl.length ≤ i → g.μ i = none) ∧ EnvAll w g a ρ ∧ Frl w0 g0 h0 n0 w g (hx hl)
def Tri (P : Program) (N n0 : Nat) (c : AC) (ρ : Env) (hl : List Ob) (Q : Exit → Env → List Ob → Prop) : Prop :=
  ∀ code, trC P N code = some c → ∀ w0 g0 h0 df a w, At N n0 w0 g0 h0 df a w ρ hl → code.wp P (fun ex a' w' => ∃ ρ' hl', Q ex ρ' hl' ∧ At N n0 w0 g0 h0 df a' w' ρ' hl') a w
section
variable {P : Program} {N n0 : Nat} {ρ : Env} {hl : List Ob} {Q : Exit → Env → List Ob → Prop}
theorem Tri.mono {Q' : Exit → Env → List Ob → Prop} {c : AC} (h : Tri P N n0 c ρ hl Q') (hq : ∀ ex ρ hl, Q' ex ρ hl → Q ex ρ hl) : Tri P N n0 c ρ hl Q :=
  fun code hc w0 g0 h0 df a w ha => wp_mono (h code hc w0 g0 h0 df a w ha) fun e a' w' ⟨ρ', hl', h1, h2⟩ => ⟨ρ', hl', hq _ _ _ h1, h2⟩
theorem trC_reg {id : Nat} {ops : Array Oper} {d : Bool} {x : AC} (h : trC P N (.region id ops d) = some x) : x = .bad ∨ ∃ l up, x = .region l up := by
  simp only [trC] at h
  split at h
  · split at h
    · cases h; exact .inl rfl
    · cases h
  · split at h
    · split at h
      · cases h; exact .inr ⟨_, _, rfl⟩
      · cases h
    · cases h; exact .inr ⟨_, _, rfl⟩
theorem Tri.skip (h : Q .normal ρ hl) : Tri P N n0 .skip ρ hl Q := by
  intro code hc w0 g0 h0 df a w ha
  cases code with
  | skip => exact wp_skip ⟨ρ, hl, h, ha⟩
  | label l => exact wp_label ⟨ρ, hl, h, ha⟩
  | region id ops d => rcases trC_reg hc with h | ⟨_, _, h⟩ <;> cases h
  | seq x y => simp only [trC] at hc; split at hc <;> cases hc
  | cond x y z => simp only [trC] at hc; split at hc <;> cases hc
  | block x y => simp only [trC] at hc; cases h' : trC P N y <;> simp [h'] at hc
  | loop y => simp only [trC] at hc; cases h' : trC P N y <;> simp [h'] at hc
  | _ => simp [trC] at hc
theorem Tri.exit {id : Nat} (h : Q (.exit id) ρ hl) : Tri P N n0 (.exit id) ρ hl Q := by
  intro code hc w0 g0 h0 df a w ha
  cases code with
  | exit j => simp only [trC] at hc; cases hc; exact wp_exit ⟨ρ, hl, h, ha⟩
  | region id ops d => rcases trC_reg hc with h | ⟨_, _, h⟩ <;> cases h
  | seq x y => simp only [trC] at hc; split at hc <;> cases hc
  | cond x y z => simp only [trC] at hc; split at hc <;> cases hc
  | block x y => simp only [trC] at hc; cases h' : trC P N y <;> simp [h'] at hc
  | loop y => simp only [trC] at hc; cases h' : trC P N y <;> simp [h'] at hc
  | _ => simp [trC] at hc
theorem Tri.ret (h : Q .ret ρ hl) : Tri P N n0 .ret ρ hl Q := by
  intro code hc w0 g0 h0 df a w ha
  cases code with
  | ret => exact wp_ret ⟨ρ, hl, h, ha⟩
  | region id ops d => rcases trC_reg hc with h | ⟨_, _, h⟩ <;> cases h
  | seq x y => simp only [trC] at hc; split at hc <;> cases hc
  | cond x y z => simp only [trC] at hc; split at hc <;> cases hc
  | block x y => simp only [trC] at hc; cases h' : trC P N y <;> simp [h'] at hc
  | loop y => simp only [trC] at hc; cases h' : trC P N y <;> simp [h'] at hc
  | _ => simp [trC] at hc
theorem trC_scope {code : Code} {x : AC} (hc : trC P N code = some (.scope x)) : ∃ a, code = .scope a ∧ trC P N a = some x := by
  cases code with
  | scope a =>
    simp only [trC] at hc
    cases h' : trC P N a with
    | none => simp [h'] at hc
    | some x' => simp [h'] at hc; subst hc; exact ⟨a, rfl, h'⟩
  | region id ops d => rcases trC_reg hc with h | ⟨_, _, h⟩ <;> cases h
  | seq x y => simp only [trC] at hc; split at hc <;> cases hc
  | cond x y z => simp only [trC] at hc; split at hc <;> cases hc
  | block x y => simp only [trC] at hc; cases h' : trC P N y <;> simp [h'] at hc
  | loop y => simp only [trC] at hc; cases h' : trC P N y <;> simp [h'] at hc
  | _ => simp [trC] at hc
def scopeQ (Q : Exit → Env → List Ob → Prop) : Exit → Env → List Ob → Prop
  | .goto _, _, _ => False
  | e, ρ, hl => Q e ρ hl
theorem Tri.scope {x : AC} (h : Tri P N n0 x ρ hl (scopeQ Q)) : Tri P N n0 (.scope x) ρ hl Q := by
  intro code hc w0 g0 h0 df a w ha
  obtain ⟨ca, rfl, h1⟩ := trC_scope hc
  refine wp_scope_straight (wp_mono (h ca h1 w0 g0 h0 df a w ha) fun e a' w' ⟨ρ', hl', hq, hat⟩ => ?_)
  cases e with
  | goto l => exact hq.elim
  | _ => exact ⟨ρ', hl', hq, hat⟩
theorem trC_seq {code : Code} {x y : AC} (hc : trC P N code = some (.seq x y)) : ∃ a b, code = .seq a b ∧ trC P N a = some x ∧ trC P N b = some y := by
  cases code with
  | seq a b =>
    simp only [trC] at hc
    split at hc
    · rename_i x' y' h1 h2; cases hc; exact ⟨a, b, rfl, h1, h2⟩
    · cases hc
  | region id ops d => rcases trC_reg hc with h | ⟨_, _, h⟩ <;> cases h
  | cond x y z => simp only [trC] at hc; split at hc <;> cases hc
  | block x y => simp only [trC] at hc; cases h' : trC P N y <;> simp [h'] at hc
  | loop y => simp only [trC] at hc; cases h' : trC P N y <;> simp [h'] at hc
  | _ => simp [trC] at hc
theorem trC_cond {code : Code} {c : AX} {x y : AC} (hc : trC P N code = some (.cond c x y)) : ∃ o a b, code = .cond o a b ∧ trX o = some c ∧ trC P N a = some x ∧ trC P N b = some y := by
  cases code with
  | cond o a b =>
    simp only [trC] at hc
    split at hc
    · rename_i c' x' y' h1 h2 h3; cases hc; exact ⟨o, a, b, rfl, h1, h2, h3⟩
    · cases hc
  | region id ops d => rcases trC_reg hc with h | ⟨_, _, h⟩ <;> cases h
  | seq x y => simp only [trC] at hc; split at hc <;> cases hc
  | block x y => simp only [trC] at hc; cases h' : trC P N y <;> simp [h'] at hc
  | loop y => simp only [trC] at hc; cases h' : trC P N y <;> simp [h'] at hc
  | _ => simp [trC] at hc
theorem trC_block {code : Code} {id : Nat} {x : AC} (hc : trC P N code = some (.block id x)) : ∃ a, code = .block id a ∧ trC P N a = some x := by
  cases code with
  | block i a =>
    simp only [trC] at hc
    cases h' : trC P N a with
    | none => simp [h'] at hc
    | some x' => simp [h'] at hc; obtain ⟨rfl, rfl⟩ := hc; exact ⟨a, rfl, h'⟩
  | region id ops d => rcases trC_reg hc with h | ⟨_, _, h⟩ <;> cases h
  | seq x y => simp only [trC] at hc; split at hc <;> cases hc
  | cond x y z => simp only [trC] at hc; split at hc <;> cases hc
  | loop y => simp only [trC] at hc; cases h' : trC P N y <;> simp [h'] at hc
  | _ => simp [trC] at hc
theorem trC_loop {code : Code} {x : AC} (hc : trC P N code = some (.loop x)) : ∃ a, code = .loop a ∧ trC P N a = some x := by
  cases code with
  | loop a =>
    simp only [trC] at hc
    cases h' : trC P N a with
    | none => simp [h'] at hc
    | some x' => simp [h'] at hc; subst hc; exact ⟨a, rfl, h'⟩
  | region id ops d => rcases trC_reg hc with h | ⟨_, _, h⟩ <;> cases h
  | seq x y => simp only [trC] at hc; split at hc <;> cases hc
  | cond x y z => simp only [trC] at hc; split at hc <;> cases hc
  | block x y => simp only [trC] at hc; cases h' : trC P N y <;> simp [h'] at hc
  | _ => simp [trC] at hc
theorem trC_region {code : Code} {l : List AO} {up : Option (List (List Nat))} (hc : trC P N code = some (.region l up)) :
    ∃ id ops, listM (trO P N ops) ops.toList = some l ∧ ((code = .region id ops false ∧ up = none) ∨ (code = .region id ops true ∧ up = some ((List.range ops.size).map (upon ops)) ∧ relB ops ops.size N [] = true ∧ lookB ops l = true ∧ P.follows .mixedOrders = true)) := by
  cases code with
  | region id ops d =>
    simp only [trC] at hc
    split at hc
    · split at hc <;> cases hc
    · rename_i l' h1
      split at hc
      · rename_i hd
        split at hc
        · rename_i hb
          cases hc
          simp only [Bool.and_eq_true] at hb
          exact ⟨id, ops, h1, .inr ⟨by rw [hd], rfl, hb.1.1, hb.1.2, hb.2⟩⟩
        · cases hc
      · rename_i hd
        cases hc
        exact ⟨id, ops, h1, .inl ⟨by simp at hd; rw [hd], rfl⟩⟩
  | seq x y => simp only [trC] at hc; split at hc <;> cases hc
  | cond x y z => simp only [trC] at hc; split at hc <;> cases hc
  | block x y => simp only [trC] at hc; cases h' : trC P N y <;> simp [h'] at hc
  | loop y => simp only [trC] at hc; cases h' : trC P N y <;> simp [h'] at hc
  | _ => simp [trC] at hc
def thenQ (K : Env → List Ob → Prop) (Q : Exit → Env → List Ob → Prop) : Exit → Env → List Ob → Prop
  | .normal, ρ, hl => K ρ hl
  | e, ρ, hl => Q e ρ hl
theorem Tri.seq {x y : AC} (h : Tri P N n0 x ρ hl (thenQ (fun ρ' hl' => Tri P N n0 y ρ' hl' Q) Q)) : Tri P N n0 (.seq x y) ρ hl Q := by
  intro code hc w0 g0 h0 df a w ha
  obtain ⟨ca, cb, rfl, h1, h2⟩ := trC_seq hc
  refine wp_seq (wp_mono (h ca h1 w0 g0 h0 df a w ha) fun e a' w' ⟨ρ', hl', hq, hat⟩ => ?_)
  cases e with
  | normal => exact hq cb h2 w0 g0 h0 df a' w' hat
  | _ => exact ⟨ρ', hl', hq, hat⟩
theorem Tri.cond {c : AX} {x y : AC} {b : Bool} (hv : ev ρ c = some (vB b)) (ht : b = true → Tri P N n0 x ρ hl Q) (hf : b = false → Tri P N n0 y ρ hl Q) : Tri P N n0 (.cond c x y) ρ hl Q := by
  intro code hc w0 g0 h0 df a w ha
  obtain ⟨o, ca, cb, rfl, h1, h2, h3⟩ := trC_cond hc
  obtain ⟨hN, hd, hn, g, hR, hμ, he, hF⟩ := ha
  have hb := rv_bool (ev_ok h1 (he.on c.ts) (fun t ht => ht) hv)
  exact wp_cond_split hb (fun e => ht e ca h2 w0 g0 h0 df a w ⟨hN, hd, hn, g, hR, hμ, he, hF⟩) (fun e => hf e cb h3 w0 g0 h0 df a w ⟨hN, hd, hn, g, hR, hμ, he, hF⟩)
def blockQ (id : Nat) (Q : Exit → Env → List Ob → Prop) : Exit → Env → List Ob → Prop
  | .exit j, ρ, hl => if j = id then Q .normal ρ hl else Q (.exit j) ρ hl
  | e, ρ, hl => Q e ρ hl
theorem Tri.block {id : Nat} {x : AC} (h : Tri P N n0 x ρ hl (blockQ id Q)) : Tri P N n0 (.block id x) ρ hl Q := by
  intro code hc w0 g0 h0 df a w ha
  obtain ⟨ca, rfl, h1⟩ := trC_block hc
  refine wp_block (wp_mono (h ca h1 w0 g0 h0 df a w ha) fun e a' w' ⟨ρ', hl', hq, hat⟩ => ?_)
  cases e with
  | exit j =>
    simp only [blockQ] at hq
    simp only [Exit.inBlock]
    by_cases hj : j = id
    · rw [if_pos hj] at hq ⊢; exact ⟨ρ', hl', hq, hat⟩
    · rw [if_neg hj] at hq ⊢; exact ⟨ρ', hl', hq, hat⟩
  | _ => exact ⟨ρ', hl', hq, hat⟩
theorem wp_loop_n {c : Code} {R : Exit → Act → World → Prop} (J : Nat → Act → World → Prop) (round : ∀ n a w, J n a w → c.wp P (Exit.then (fun a' w' => ∃ m, m < n ∧ J m a' w') R) a w) : ∀ n a w, J n a w → (Code.loop c).wp P R a w := by
  intro n a w hJ b k cs
  have key : ∀ n a w, J n a w → ∃ e a' w', R e a' w' ∧ Arrives P (lone (b.at a (.code c :: .inLoop c :: k)) cs w) b k cs e a' w' := by
    intro n
    induction n using Nat.strongRecOn with
    | _ n ih =>
      intro a w hI
      obtain ⟨e, a₁, w₁, hq, harr⟩ := round n a w hI b (.inLoop c :: k) cs
      cases e with
      | normal =>
        obtain ⟨m, hlt, hI₁⟩ := hq
        obtain ⟨e₂, a₂, w₂, hq₂, harr₂⟩ := ih m hlt a₁ w₁ hI₁
        exact ⟨e₂, a₂, w₂, hq₂, .of_steps (Steps.trans harr (.one step_inLoop)) harr₂⟩
      | exit id => exact ⟨_, a₁, w₁, hq, .pass (x := .inLoop c) rfl (fun _ _ => .inl (by simp)) harr⟩
      | goto l => exact ⟨_, a₁, w₁, hq, .pass (x := .inLoop c) rfl (fun _ _ => .inl (by simp)) harr⟩
      | ret => exact ⟨_, a₁, w₁, hq, .pass (x := .inLoop c) rfl (fun _ _ => .inl (by simp)) harr⟩
      | panic ch => exact ⟨_, a₁, w₁, hq, .pass (x := .inLoop c) rfl (fun _ _ => .inl (by simp)) harr⟩
      | outgrown => exact ⟨_, a₁, w₁, hq, .pass (x := .inLoop c) rfl (fun _ _ => .inl (by simp)) harr⟩
  obtain ⟨e, a', w', hq, harr⟩ := key n a w hJ
  exact ⟨e, a', w', hq, .of_steps (.one step_loop) harr⟩
theorem Tri.loop {x : AC} (J : Nat → Env → List Ob → Prop) {n : Nat} (h0 : J n ρ hl) (round : ∀ n ρ hl, J n ρ hl → Tri P N n0 x ρ hl (thenQ (fun ρ' hl' => ∃ m, m < n ∧ J m ρ' hl') Q)) : Tri P N n0 (.loop x) ρ hl Q := by
  intro code hc w0 g0 h0' df a w ha
  obtain ⟨ca, rfl, h1⟩ := trC_loop hc
  refine wp_loop_n (fun n a w => ∃ ρ hl, J n ρ hl ∧ At N n0 w0 g0 h0' df a w ρ hl) (fun n a w ⟨ρ, hl, hj, hat⟩ => ?_) n a w ⟨ρ, hl, h0, ha⟩
  refine wp_mono (round n ρ hl hj ca h1 w0 g0 h0' df a w hat) fun e a' w' ⟨ρ', hl', hq, hat'⟩ => ?_
  cases e with
  | normal => obtain ⟨m, hm, hj'⟩ := hq; exact ⟨m, hm, ρ', hl', hj', hat'⟩
  | _ => exact ⟨ρ', hl', hq, hat'⟩
theorem Tri.region {l : List AO} {up : Option (List (List Nat))} (h : Rg P N l ρ hl [] (fun ρ' hl' fs => (∀ u, up = some u → ordB u fs = true) ∧ Q .normal ρ' hl')) : Tri P N n0 (.region l up) ρ hl Q := by
  intro code hc w0 g0 h0 df a w ha
  obtain ⟨id, ops, htr, hcase⟩ := trC_region hc
  obtain ⟨hN, hd, hn, g, hR, hμ, he, hF⟩ := ha
  rcases hcase with ⟨rfl, rfl⟩ | ⟨rfl, rfl, hrel, hlook, hmix⟩
  · refine wp_region ?_
    rw [List.range_eq_range', ← Array.length_toList]
    refine rg_text (ops := ops) ops.toList l 0 ρ hl [] _ a w g a w0 g0 h0 n0 (fun j hj => by simp) htr h hN rfl hR hμ he hF hn _ (fun a' w' ρ' hl' fs' g' hq q1 q2 q3 q4 q5 q6 q7 => ?_)
    exact ⟨ρ', hl', hq.2, q1, q2.trans hd, q7, g', q3, q4, q5, q6⟩
  · refine wp_region_any hmix ?_
    obtain ⟨ss, hst, hK⟩ := rg_seq l ρ hl [] _ h
    have hlen : l.length = ops.size := by rw [← (listM_ok htr).1]; simp
    rw [hlen] at hK
    obtain ⟨hord, hq⟩ := hK
    have hord := hord _ rfl
    rw [List.nil_append] at hord
    have Fi := relB_fine hrel
    have hts : ∀ k o, l[k]? = some o → (∀ t ∈ o.op.ts, t ∈ looksOf ops k) ∧ ∀ t want, o.grd = some (t, want) → t ∈ looksOf ops k := fun k o hk => by
      have hkl := (List.getElem?_eq_some_iff.1 hk).1
      have := List.all_eq_true.1 hlook k (List.mem_range.2 hkl)
      rw [hk] at this
      simp only [Bool.and_eq_true, List.all_eq_true, List.contains_iff_mem] at this
      refine ⟨this.1, fun t want hg => ?_⟩
      have h2 := this.2
      rw [hg] at h2
      simpa using h2
    have hcnt : cnt (Array.replicate ops.size false) ops.size = ops.size := by
      have : ∀ k, cnt (Array.replicate ops.size false) k = k := fun k => by
        induction k with
        | zero => rfl
        | succ k ih => simp only [cnt, ih, getD_replicate_false]; simp
      exact this _
    have hD0 : ∀ m, hDn ss hl (Array.replicate ops.size false) m = hx hl := fun m => by
      induction m with
      | zero => rfl
      | succ m ih => simp only [hDn, getD_replicate_false]; simpa using ih
    have hkd : Keeps (Own g (hx hl)) w { w with drawn := w.drawn + 1 } := (Keeps.refl _ w).drew
    have hRd : Rl { w with drawn := w.drawn + 1 } g (hx hl) := by
      have hgo : Go1 w g (hx hl) [] hl.length 0 { w with drawn := w.drawn + 1 } g (hx hl) := ⟨(Keeps.refl _ w).drew, Gm.refl g, fun b hb => .inl hb, fun _ _ hn => hn, fun _ _ _ => rfl, fun i b hi => by simp [isNew] at hi; omega⟩
      exact hR.step hgo (fun _ _ _ => rfl) (fun i hi => by simp [isNew] at hi; omega) (fun i hi => by simp [isNew] at hi; omega) (fun i j c hi => by simp [isNew] at hi; omega) (fun i c hi => by simp [isNew] at hi; omega) (fun b hb => hR.lt b hb)
    have hed : EnvAll { w with drawn := w.drawn + 1 } g a ρ := fun t v hv => RV.more (w := w) (w' := { w with drawn := w.drawn + 1 }) (fun _ _ => rfl) (Gm.refl g) (he t v hv)
    have hFd : Frl w g (hx hl) hl.length { w with drawn := w.drawn + 1 } g (hx hl) := ⟨hkd, fun _ h => h, fun _ h => .inl h, fun _ _ => rfl, fun _ h => .inl h⟩
    have hrun := rg_any (P := P) (N := N) (ops := ops) (aos := l) (ss := ss) (ρ := ρ) (hl := hl) (a0 := a) (w0 := w) (g0 := g) (Q' := fun ex a' w' => ∃ ρ' hl', Q ex ρ' hl' ∧ At N n0 w0 g0 h0 df a' w' ρ' hl') Fi htr hst hord hts hN (fun b W g' inv => ?_) ops.size (Array.replicate ops.size false) a { w with drawn := w.drawn + 1 } g
      ⟨⟨by simp, fun j oj _ hl' => (by rw [getD_replicate_false] at hl'; cases hl'), fun t _ ht => getD_in (by simpa using ht) (getD_replicate_false _ _)⟩, by rw [hD0]; exact hRd, fun j _ hl' => (by rw [getD_replicate_false] at hl'; cases hl'), fun _ _ => rfl, hed, by rw [hD0]; exact hFd,
        fun i hi _ => hμ i hi, rfl, rfl⟩ hcnt
    · rwa [Nat.sub_self, Nat.add_zero] at hrun
    · -- all are done
      have hcan : ∀ k, k < ops.size → (canon ops.size ops.size).getD k false = true := fun k hk => by simp [canon, hk]
      have hids : ∀ k, k < ops.size → ∀ x ∈ (ss k).ids, x < (heaps ss hl k).length := fun k hk x hx => by
        have hk' : k < l.length := by omega
        rcases hst k l[k] (List.getElem?_eq_getElem hk') with ⟨_, h⟩ | ⟨_, h⟩
        · rw [h] at hx; simp [noRes, Res.ids] at hx
        · exact h.1 x hx
      have hDe : hDn ss hl (canon ops.size ops.size) ops.size = hx (heaps ss hl ops.size) := by
        funext x
        have := hD_at (listed := canon ops.size ops.size) (x := x) hids (Nat.le_refl ops.size) (fun k hk _ => ⟨fun _ => hk, fun _ => hcan k hk⟩) ops.size (Nat.le_refl _)
        rw [this, Nat.min_self]
      have hR' := inv.rl
      have hF' := inv.frl
      rw [hDe] at hR' hF'
      have hle := heaps_le ss hl (Nat.zero_le ops.size)
      simp only [heaps] at hle
      have hdst : ∀ k o, l[k]? = some o → dstOf ops k = o.dst := fun k o hk => by
        obtain ⟨a, a1, a2⟩ := (listM_ok htr).2 k o hk
        have a1' : ops[k]? = some a := by simpa using a1
        simp only [dstOf, a1', Option.bind_some]
        exact (trO_op a2).2.1
      refine ⟨_, _, hq, by rw [inv.size]; exact hN, inv.defers.trans hd, Nat.le_trans hn hle, g', hR', fun i hi => ?_, fun t v hv => ?_, hF.trans hF' hn⟩
      · refine inv.μn i (Nat.le_trans hle hi) fun j hj _ hnj => ?_
        have := heaps_lt ss hl hj
        unfold isNew at hnj
        omega
      · rcases envs_get l ss ρ ops.size t v hv with ⟨x, ox, h1, h2, h3, rfl, h5⟩ | ⟨h1, h2⟩
        · exact inv.done x h1 (hcan x h1) t ((hdst x ox h2).trans h3)
        · have hfr := inv.fresh t fun x hx _ hd' => by
            have hx' : x < l.length := by omega
            exact h2 x l[x] hx (List.getElem?_eq_getElem hx') ((hdst x _ (List.getElem?_eq_getElem hx')).symm.trans hd')
          have e : b.eval (.tmp t) = a.eval (.tmp t) := by simp [Act.eval, hfr]
          rw [e]
          exact inv.env t v h1
end
end Go.Proofs.YthddlkhfkncgpaaGreat
set_option linter.unusedVariables false
set_option linter.unusedSimpArgs false
namespace Go.Proofs.YthddlkhfkncgpaaGreat
open Go.RowKit

def bkEnv (σ τ : List Nat) (hl : List Ob) (ρ : Env) : List Nat → Option Env
  | [] => some []
  | t :: ts => match get ρ t with
    | none => none
    | some v => match v.bk σ τ hl, bkEnv σ τ hl ρ ts with
      | some v', some r => some ((t, v') :: r)
      | _, _ => none
section
variable {N n0 : Nat} {w0 : World} {g0 : Gh} {h0 : Nat → Ob} {df : List Deferred} {a : Act} {w : World} {ρ ρ' : Env} {hl hs : List Ob} {σ τ live : List Nat}
theorem bkEnv_ok {g : Gh} (hR : Rl w g (hx hl)) (he : EnvAll w g a ρ) : ∀ {live : List Nat} {ρ' : Env}, (∀ t ∈ live, ∀ v, get ρ t = some v → v.Vw σ τ hl) → bkEnv σ τ hl ρ live = some ρ' → EnvAll w (g.sub (hx hl) σ τ) a ρ'
  | [], ρ', hk, h => by cases h; intro t v hv; cases hv
  | t :: ts, ρ', hk, h => by
    unfold bkEnv at h
    split at h
    · cases h
    · rename_i v hv
      split at h
      · rename_i v' r h1 h2
        cases h
        intro t' x hx'
        simp only [get] at hx'
        by_cases ht : t = t'
        · subst ht
          simp at hx'
          subst hx'
          exact bkV_ok hR (fun _ _ => rfl) (he t v hv) (hk t (by simp) v hv) h1
        · rw [beqF ht] at hx'
          exact bkEnv_ok hR he (fun t ht => hk t (by simp [ht])) h2 t' x hx'
      · cases h
theorem sub_own {g : Gh} (hbo : listM (Ob.bk σ hl) (σ.map (hx hl)) = some hs) : ∀ b, Own (g.sub (hx hl) σ τ) (hx hs) b → Own g (hx hl) b := by
  obtain ⟨l1, l2⟩ := listM_ok hbo
  rintro b ⟨j, hj, hf⟩
  have hjl := hx_live hj
  obtain ⟨a, a1, a2⟩ := l2 j _ (List.getElem?_eq_getElem hjl)
  rw [List.getElem?_map] at a1
  cases hi : σ[j]? with
  | none => simp [hi] at a1
  | some i =>
    simp [hi] at a1
    simp only [Gh.sub, hi] at hf
    refine ⟨i, ?_, hf⟩
    rw [a1]
    cases a with
    | dead => simp [Ob.bk] at a2; simp [hx, List.getD_eq_getElem?_getD, List.getElem?_eq_getElem hjl, ← a2] at hj; cases hj
    | _ => rfl
theorem sub_all {g : Gh} (hR : Rl w g (hx hl)) (hn0 : n0 ≤ hl.length) (hF : Frl w0 g0 h0 n0 w g (hx hl)) (hbo : listM (Ob.bk σ hl) (σ.map (hx hl)) = some hs) (hnd : (σ ++ τ).Nodup) (hpre : σ.take n0 = List.range n0) :
    n0 ≤ hs.length ∧ Rl w (g.sub (hx hl) σ τ) (hx hs) ∧ (∀ i, hs.length ≤ i → (g.sub (hx hl) σ τ).μ i = none) ∧ Frl w0 g0 h0 n0 w (g.sub (hx hl) σ τ) (hx hs) := by
  have hnds := List.nodup_append.1 hnd
  have hlen : hs.length = σ.length := by rw [← (listM_ok hbo).1]; simp
  have hp : ∀ i, i < n0 → σ[i]? = some i := fun i hi => by
    have : (σ.take n0)[i]? = some i := by rw [hpre, List.getElem?_range hi]
    rwa [List.getElem?_take_of_lt hi] at this
  have hn : n0 ≤ σ.length := by
    rcases Nat.lt_or_ge σ.length n0 with h | h
    · have := hp _ h; simp at this
    · exact h
  refine ⟨by omega, hR.sub (fun _ _ => rfl) (fun _ _ => rfl) hnds.1 (fun i hi hj => hnds.2.2 i hi i hj rfl) hbo, fun i hi => ?_, ?_⟩
  · simp [Gh.sub, List.getElem?_eq_none (show σ.length ≤ i by omega)]
  · refine ⟨hF.keeps, fun b hb => .inl (hF.I b hb), fun b hb => ?_, fun i hi => ?_, fun b hb => hF.own b (sub_own hbo b hb)⟩
    · rcases hb with hb | ⟨i, _, i2, i3⟩
      · exact hF.In b hb
      · rcases hF.own b ⟨i, i2, i3⟩ with h | h
        · exact .inr (.inl h)
        · exact .inr (.inr h)
    · rw [Gh.sub_μ (hp i hi)]; exact hF.μ i hi
theorem At.sub (hat : At N n0 w0 g0 h0 df a w ρ hl) (hbo : listM (Ob.bk σ hl) (σ.map (hx hl)) = some hs) (hvw : ∀ t ∈ live, ∀ v, get ρ t = some v → v.Vw σ τ hl) (hρ : bkEnv σ τ hl ρ live = some ρ') (hnd : (σ ++ τ).Nodup) (hpre : σ.take n0 = List.range n0) : At N n0 w0 g0 h0 df a w ρ' hs := by
  obtain ⟨h1, h2, h3, g, hR, hμ, he, hF⟩ := hat
  obtain ⟨q1, q2, q3, q4⟩ := sub_all (τ := τ) hR h3 hF hbo hnd hpre
  exact ⟨h1, h2, q1, _, q2, q3, bkEnv_ok hR he hvw hρ, q4⟩
end
section
variable {P : Program} {N n0 : Nat} {ρ ρ' : Env} {hl hs : List Ob} {Q : Exit → Env → List Ob → Prop}
theorem Tri.sub {c : AC} (σ τ live : List Nat) (hbo : listM (Ob.bk σ hl) (σ.map (hx hl)) = some hs) (hvw : ∀ t ∈ live, ∀ v, get ρ t = some v → v.Vw σ τ hl) (hρ : bkEnv σ τ hl ρ live = some ρ') (hnd : (σ ++ τ).Nodup) (hpre : σ.take n0 = List.range n0) (h : Tri P N n0 c ρ' hs Q) : Tri P N n0 c ρ hl Q :=
  fun code hc w0 g0 h0 df a w ha => h code hc w0 g0 h0 df a w (ha.sub hbo hvw hρ hnd hpre)
/-- Only what the temporaries of a list hold is kept. -/
def keepE (ρ : Env) : List Nat → Option Env
  | [] => some []
  | t :: ts => match get ρ t, keepE ρ ts with
    | some v, some r => some ((t, v) :: r)
    | _, _ => none
theorem keepE_ok : ∀ {live : List Nat} {ρ' : Env}, keepE ρ live = some ρ' → ∀ t v, get ρ' t = some v → get ρ t = some v
  | [], ρ', h, t, v, hv => by cases h; cases hv
  | u :: ts, ρ', h, t, v, hv => by
    unfold keepE at h
    split at h
    · rename_i x r h1 h2
      cases h
      simp only [get] at hv
      by_cases ht : u = t
      · subst ht; simp at hv; subst hv; exact h1
      · rw [beqF ht] at hv
        exact keepE_ok h2 t v hv
    · cases h
theorem At.keep {N n0 : Nat} {w0 : World} {g0 : Gh} {h0 : Nat → Ob} {df : List Deferred} {a : Act} {w : World} {live : List Nat} (hat : At N n0 w0 g0 h0 df a w ρ hl) (hk : keepE ρ live = some ρ') : At N n0 w0 g0 h0 df a w ρ' hl := by
  obtain ⟨h1, h2, h3, g, hR, hμ, he, hF⟩ := hat
  exact ⟨h1, h2, h3, g, hR, hμ, fun t v hv => he t v (keepE_ok hk t v hv), hF⟩
theorem Tri.keep {c : AC} (live : List Nat) (hk : keepE ρ live = some ρ') (h : Tri P N n0 c ρ' hl Q) : Tri P N n0 c ρ hl Q :=
  fun code hc w0 g0 h0 df a w ha => h code hc w0 g0 h0 df a w (ha.keep hk)
/-- A value that is none yet, as a list of the call's own. -/
theorem Tri.own {c : AC} (t sz : Nat) (hsz : 0 < sz) (ht : get ρ t = some (vD .nil)) (h : Tri P N n0 c ((t, vC (.sl hl.length 0 0)) :: ρ) (hl ++ [.arr sz []]) Q) : Tri P N n0 c ρ hl Q := by
  intro code hc w0 g0 h0 df a w ⟨h1, h2, h3, g, hR, hμ, he, hF⟩
  refine h code hc w0 g0 h0 df a w ?_
  have hd : hx hl hl.length = .dead := by simp [hx, List.getD_eq_getElem?_getD]
  have hv := rv_d (he t _ ht)
  obtain ⟨q1, q2⟩ := alloc1 (w' := w) (base := hl.length) hR (Keeps.refl _ _) (fun i hi => by rw [isNew1] at hi; subst hi; exact ⟨hμ _ (Nat.le_refl _), hd⟩) ⟨0, true, sz, 0⟩ (fun _ => False) (.arr sz []) (fun b hb => hb.elim)
    ⟨hsz, _, Gh.set_at _ _ _ _, rfl, .inl ⟨rfl, rfl, rfl, fun b hb => by rw [Gh.set_fp] at hb; exact hb⟩⟩ .u []
  have happ : hx (hl ++ [.arr sz []]) = Res.app { v := .u, nw := [.arr sz []] } hl.length (hx hl) := by
    have := appL_get (s := { v := .u, nw := [.arr sz []] }) (hl := hl) (fun i hi => by simp [Res.ids] at hi)
    simpa [appL, setAll] using this
  refine ⟨h1, h2, by simp; omega, _, by rw [happ]; exact q1, fun i hi => ?_, fun t' v hv' => ?_, by rw [happ]; exact hF.step q2 h3 (fun i h1 h2 => app_same (s := { v := .u, nw := [.arr sz []] }) h1 h2)⟩
  · simp at hi
    have : ¬ i = hl.length := by omega
    simp only [Gh.set, if_neg this]
    exact hμ i (by omega)
  · simp only [get] at hv'
    by_cases htt : t = t'
    · subst htt
      simp at hv'
      subst hv'
      cases hva : a.eval (.tmp t) with
      | slice A n cp =>
        rw [hva] at hv
        cases hv
        exact .e (.c (.slz (l := ⟨0, true, sz, 0⟩) 0 A (Gh.set_at _ _ _ _) rfl))
      | _ => rw [hva] at hv; cases hv
    · rw [beqF htt] at hv'
      exact (he t' v hv').more (fun _ _ => rfl) q2.gm
end
/-- What a function gives back. -/
def arE (ρ : Env) (hl : List Ob) : AR → Option (Prop × E)
  | .tmp t => match get ρ t with
    | some (.e e) => some (True, e)
    | _ => none
  | .cell t n => match get ρ t with
    | some (.e (.c (.ptr id off))) => match hx hl id with
      | .box cs => match sub1 cs off n with
        | some (p, .e e) => some (p, e)
        | _ => none
      | _ => none
    | _ => none
def arEs (ρ : Env) (hl : List Ob) : List AR → Option (Prop × List E)
  | [] => some (True, [])
  | .tmp t :: rs => match get ρ t, arEs ρ hl rs with
    | some (.e e), some (q, es) => some (q, e :: es)
    | _, _ => none
  | .cell t n :: rs => match arE ρ hl (.cell t n), arEs ρ hl rs with
    | some (p, e), some (q, es) => some (p ∧ q, e :: es)
    | _, _ => none
theorem arEs_cons {ρ : Env} {hl : List Ob} {r : AR} {rs : List AR} {p : Prop} {l : List E} (h : arEs ρ hl (r :: rs) = some (p, l)) : ∃ q e q' es, arE ρ hl r = some (q, e) ∧ arEs ρ hl rs = some (q', es) ∧ l = e :: es ∧ (p → q ∧ q') := by
  cases r with
  | tmp t =>
    simp only [arEs] at h
    split at h
    · rename_i e q es h1 h2
      cases h
      exact ⟨True, e, _, es, by simp only [arE, h1], h2, rfl, fun h => ⟨trivial, h⟩⟩
    · cases h
  | cell t n =>
    simp only [arEs] at h
    split at h
    · rename_i q e q' es h1 h2
      cases h
      exact ⟨_, e, _, es, h1, h2, rfl, fun h => h⟩
    · cases h
def oneV : List E → V
  | [e] => .e e
  | es => .tup es
def env0 (k : Nat) : List V → Env
  | [] => []
  | v :: r => (k, v) :: env0 (k + 1) r
/-- The end of a function: what is given back, and what objects are left. -/
def Fin (res : List AR) (n0 : Nat) (ρ : Env) (hl : List Ob) (r : V) (hs : List Ob) : Prop :=
  ∃ σ τ p es, arEs ρ hl res = some (p, es) ∧ p ∧ (oneV es).Vw σ τ hl ∧ (oneV es).bk σ τ hl = some r ∧ listM (Ob.bk σ hl) (σ.map (hx hl)) = some hs ∧ (σ ++ τ).Nodup ∧ σ.take n0 = List.range n0
section
variable {P : Program}
theorem env0_get : ∀ (vs : List V) (k t : Nat) (v : V), get (env0 k vs) t = some v → ∃ j, t = k + j ∧ vs[j]? = some v
  | [], k, t, v, h => by cases h
  | x :: vs, k, t, v, h => by
    simp only [env0, get] at h
    by_cases hk : k = t
    · subst hk; simp at h; subst h; exact ⟨0, rfl, rfl⟩
    · rw [beqF hk] at h
      obtain ⟨j, h1, h2⟩ := env0_get vs (k + 1) t v h
      exact ⟨j + 1, by omega, by simpa using h2⟩
theorem results_ok {w : World} {g : Gh} {a : Act} {ρ : Env} {hl : List Ob} (hR : Rl w g (hx hl)) (he : EnvAll w g a ρ) {fn : Func} {ars : List AR} {p : Prop} {es : List E} (htr : listM (trR P) fn.results.toList = some ars) (h : arEs ρ hl ars = some (p, es)) (hp : p) :
    ∃ v, (results fn a.tmps).run P w = .ok v w ∧ RV w g v (oneV es) := by
  have key : ∀ (l : List ResultVar) (ars : List AR) (p : Prop) (es : List E), listM (trR P) l = some ars → arEs ρ hl ars = some (p, es) → p →
      ∃ vs : List Value, (l.mapM fun | .tmp t => pure (a.tmps.getD t undef) | .cell b t => do loadVar t (← asAddr (a.tmps.getD b undef)) : Sem (List Value)).run P w = .ok vs w ∧ vs.length = es.length ∧ ∀ (j : Nat) e, es[j]? = some e → ∃ v, vs[j]? = some v ∧ RE w g v e := by
    intro l
    induction l with
    | nil => intro ars p es h1 h2 h3; simp [listM] at h1; subst h1; cases h2; exact ⟨[], by simp, rfl, fun j e hj => by simp at hj⟩
    | cons r l ih =>
      intro ars p es h1 h2 h3
      unfold listM at h1
      cases hr : trR P r with
      | none => simp [hr] at h1
      | some ar => cases hl' : listM (trR P) l with
        | none => simp [hr, hl'] at h1
        | some ars' =>
          simp [hr, hl'] at h1
          subst h1
          · obtain ⟨q, e, q', es', e1, e2, rfl, h3'⟩ := arEs_cons h2
            have h3 := h3' h3
            obtain ⟨vs, i1, i2, i3⟩ := ih ars' _ _ hl' e2 h3.2
            have hhead : ∃ v, (match r with | .tmp t => pure (a.tmps.getD t undef) | .cell b t => do loadVar t (← asAddr (a.tmps.getD b undef)) : Sem Value).run P w = .ok v w ∧ RE w g v e := by
              cases r with
              | tmp t =>
                simp [trR] at hr
                subst hr
                simp only [arE] at e1
                split at e1
                · rename_i e0 hg
                  cases e1
                  exact ⟨a.tmps.getD t undef, rfl, rv_e (he t _ hg)⟩
                · cases e1
              | cell b t =>
                cases hc : cellsB P t with
                | none => simp [trR, hc] at hr
                | some n =>
                  simp [trR, hc] at hr
                  subst hr
                  simp only [arE] at e1
                  split at e1
                  · rename_i id off hg
                    split at e1
                    · rename_i cs hid
                      split at e1
                      · rename_i q0 e0 hs
                        cases e1
                        have r1 := rv_c (he b _ hg)
                        obtain ⟨l, arr, ty, m1, m2, m3, m4, m5, _⟩ := hid ▸ hR.objs id (by rw [hid]; rfl)
                        have hcell : ∀ j, w.cell? ⟨l.blk, j, none⟩ = arr[j]? := fun j => cell_of_row _ l.blk j arr ty _ m3
                        have hev : a.tmps.getD b undef = a.eval (.tmp b) := rfl
                        show ∃ v, (do loadVar t (← asAddr (a.tmps.getD b undef)) : Sem Value).run P w = .ok v w ∧ RE w g v _
                        rw [hev]
                        generalize a.eval (.tmp b) = u at *
                        cases r1 with
                        | ptr _ hμ hn =>
                          rename_i l'
                          obtain rfl : l = l' := Option.some.inj (m1.symm.trans hμ)
                          have hload : ∀ v, (Instr.loadAt t (.pointer (some ⟨l.blk, off, none⟩))).run P w = .ok v w → (do loadVar t (← asAddr (.pointer (some ⟨l.blk, off, none⟩))) : Sem Value).run P w = .ok v w := fun v h => by simpa [Instr.loadAt, Instr.sureAddr, asAddr] using h
                          cases n with
                          | none =>
                            simp only [sub1] at hs
                            split at hs
                            · rename_i c hcj
                              cases hs
                              obtain ⟨u, u1, u2⟩ := m5 _ c hcj
                              exact ⟨u, hload _ (run_loadVar (P := P) (w := w) hc l.blk off (fun _ => u) (fun j hj => by simp at hj; subst hj; rw [hcell, Nat.add_zero]; exact u1)), .c u2⟩
                            · cases hs
                          | some n =>
                            have hlen : off + n ≤ cs.length ∧ e = .agg ((cs.drop off).take n) := by
                              simp only [sub1] at hs
                              cases hb : (Nat.beq off 0 && Nat.beq n cs.length) with
                              | true =>
                                rw [hb] at hs
                                simp only [cond_true] at hs
                                cases hs
                                simp only [Bool.and_eq_true] at hb
                                obtain rfl := Nat.eq_of_beq_eq_true hb.1
                                obtain rfl := Nat.eq_of_beq_eq_true hb.2
                                simp
                              | false =>
                                rw [hb] at hs
                                simp only [cond_false] at hs
                                cases hs
                                exact ⟨h3.1, rfl⟩
                            obtain ⟨hle, rfl⟩ := hlen
                            have hrun := run_loadVar (P := P) (w := w) hc l.blk off (fun j => (arr[off + j]?).getD undef) (fun j hj => by
                              simp at hj
                              rw [hcell]
                              have : off + j < arr.size := by omega
                              simp [this])
                            refine ⟨_, hload _ hrun, ?_⟩
                            have := cells_of (w := w) (g := g) (cs := (cs.drop off).take n) (n := n) (f := fun j => (arr[off + j]?).getD undef) (by simp; omega) (fun j c hj => by
                              rw [List.getElem?_take] at hj
                              split at hj
                              · rw [List.getElem?_drop] at hj
                                obtain ⟨u, u1, u2⟩ := m5 _ c hj
                                rw [u1]; exact u2
                              · cases hj)
                            exact .agg _ _ this.1 this.2
                      · cases e1
                    · cases e1
                  · cases e1
            obtain ⟨v, v1, v2⟩ := hhead
            refine ⟨v :: vs, ?_, by simp [i2], fun j e' hj => ?_⟩
            · rw [List.mapM_cons]
              simp only [Sem.run_bind, v1, Result.andThen_ok, i1, Sem.run_pure]
            · cases j with
              | zero => simp at hj; subst hj; exact ⟨v, rfl, v2⟩
              | succ j => simpa using i3 j e' (by simpa using hj)
  obtain ⟨vs, i1, i2, i3⟩ := key _ ars p es htr h hp
  have hm : ((fn.results.toList.mapM fun | .tmp t => pure (a.tmps.getD t undef) | .cell b t => do loadVar t (← asAddr (a.tmps.getD b undef)) : Sem (List Value)).run P w) = .ok vs w := i1
  unfold results
  rw [Array.mapM_eq_mapM_toList, map_eq_pure_bind]
  generalize hF : (List.mapM (m := Sem) (β := Value) _ fn.results.toList) = F
  have hm2 : F.run P w = .ok vs w := by rw [← hF]; exact hm
  simp only [Sem.run_bind, hm2, Result.andThen_ok, Sem.run_pure]
  refine ⟨_, rfl, ?_⟩
  have hsz : vs.toArray.size = es.length := by simp [i2]
  by_cases h1 : vs.toArray.size = 1
  · rw [dif_pos h1]
    rw [hsz] at h1
    obtain ⟨e, rfl⟩ := List.length_eq_one_iff.1 h1
    obtain ⟨x, rfl⟩ := List.length_eq_one_iff.1 (i2.trans h1)
    obtain ⟨v, v1, v2⟩ := i3 0 e rfl
    simp at v1
    subst v1
    exact .e v2
  · rw [dif_neg h1]
    have ho : oneV es = .tup es := by
      match es, hsz ▸ h1 with
      | [], _ => rfl
      | [e], h => exact absurd rfl h
      | _ :: _ :: _, _ => rfl
    rw [ho]
    exact .tup _ _ hsz fun j e hj => by simpa using i3 j e hj
theorem FnOk.intro {f : FuncId} {fn : Func} {af : AF} {vs : List V} {hs hs' : List Ob} {r : V} (hf : P.funcs[f]? = some fn) (htr : trF P fn = some af) (hnm : fn.name ≠ "runtime.NumGoroutine") (hlen : vs.length = af.np)
    (h : Tri P af.N hs.length af.body (env0 0 vs) hs (fun ex ρ hl => (ex = .normal ∨ ex = .ret) ∧ ∃ r0 hs0, Fin af.res hs.length ρ hl r0 hs0 ∧ V.le r0 r ∧ LeOs hs0 hs')) : FnOk P f vs hs r hs' := by
  unfold trF at htr
  split at htr
  · cases htr
  · rename_i c hb
    split at htr
    · rename_i b rs h1 h2
      split at htr
      · rename_i hle
        cases htr
        refine ⟨⟨fn, hf, by simp [hb], hnm⟩, fun w g args hR hμ hsz hv => ?_⟩
        simp only at hlen h
        refine calls_of_wp hf hb (wp_mono (h c h1 w g (hx hs) [] _ w ⟨by simp; omega, rfl, Nat.le_refl _, g, hR, hμ, ?_, Frl.refl _ _ _ _⟩) fun ex a' w' ⟨ρ', hl', ⟨hex, r0, hs0, hfin, hle, hlo⟩, hat⟩ => ?_)
        · intro t v hg
          obtain ⟨j, rfl, hj⟩ := env0_get vs 0 t v hg
          rw [Nat.zero_add]
          have hjl : j < args.size := by have := (List.getElem?_eq_some_iff.1 hj).1; omega
          have e : Act.eval { tmps := args ++ Array.replicate (fn.ntmps - args.size) undef, defers := [] } (.tmp j) = args[j] := by
            simp [Act.eval, Array.getD, hjl, Array.getElem_append_left]
            intro h
            omega
          rw [e]
          exact hv j _ v (by simp [hjl]) hj
        · obtain ⟨σ, τ, p, es, q1, q2, qv, q3, q4, q5, q6⟩ := hfin
          obtain ⟨_, hd, hn, g', hR', hμ', he', hF'⟩ := hat
          obtain ⟨v, v1, v2⟩ := results_ok hR' he' h2 q1 q2
          obtain ⟨k1, k2, k3, k4⟩ := sub_all (τ := τ) hR' hn hF' q4 q5 q6
          have key : Ending.returned v = Ending.returned v := rfl
          have hgoal : ∃ v', (results fn a'.tmps).run P w' = .ok v' w' ∧ ∃ x g'', Ending.returned v' = Ending.returned x ∧ RV w' g'' x r ∧ Rl w' g'' (hx hs') ∧ Fr w g hs w' g'' hs' :=
            ⟨v, v1, v, _, rfl, (bkV_ok hR' (fun _ _ => rfl) v2 qv q3).le hle, k2.le hlo.at, ⟨hlo.len ▸ k1, k4.keeps, k4.I, k4.In, k4.μ, hlo.len ▸ k3, fun b ⟨i, i1, i2⟩ => k4.own b ⟨i, (hlo.at i).le_live.symm.trans i1, i2⟩⟩⟩
          rcases hex with rfl | rfl
          · exact ⟨hd, hgoal⟩
          · exact ⟨hd, hgoal⟩
      · cases htr
    · cases htr
end
end Go.Proofs.YthddlkhfkncgpaaGreat
set_option linter.unusedVariables false
set_option linter.unusedSimpArgs false
namespace Go.Proofs.YthddlkhfkncgpaaGreat
open Go.RowKit

section
variable {β : Type}
def fGo : List Nat → Nat → Nat → (Nat → β) → β
  | x :: _, 0, _, k => k x
  | _ :: l, n + 1, m, k => fGo l n m k
  | [], _, m, k => k m
def fTab : List Nat := [0, 1, 2, 3, 4, 5, 6, 7, 8, 9, 10, 11, 12, 13, 14, 15, 16, 17, 18, 19, 20, 21, 22, 23, 24, 25, 26, 27, 28, 29, 30, 31, 32, 33, 34, 35, 36, 37, 38, 39, 40, 41, 42, 43, 44, 45, 46, 47, 48, 49, 50, 51, 52, 53, 54, 55, 56, 57, 58, 59, 60, 61, 62, 63]
/-- A number as it is written out. -/
def fN (n : Nat) (k : Nat → β) : β := fGo fTab n n k
theorem fGo_eq : ∀ (l : List Nat) (n m : Nat) (k : Nat → β), (∀ x, l[n]? = some x → x = m) → fGo l n m k = k m
  | x :: l, 0, m, k, h => by simp [fGo, h x rfl]
  | _ :: l, n + 1, m, k, h => by unfold fGo; exact fGo_eq l n m k (fun x hx => h x (by simpa using hx))
  | [], n, m, k, h => by cases n <;> rfl
theorem fN_eq (n : Nat) (k : Nat → β) : fN n k = k n := fGo_eq _ _ _ _ fun x hx => by
  have hl : n < 64 := (List.getElem?_eq_some_iff.1 hx).1
  have : fTab = List.range 64 := by decide
  rw [this, List.getElem?_range hl] at hx
  cases hx; rfl
def fNs : List Nat → (List Nat → β) → β
  | [], k => k []
  | n :: l, k => fN n fun n => fNs l fun l => k (n :: l)
theorem fNs_eq : ∀ (l : List Nat) (k : List Nat → β), fNs l k = k l
  | [], k => rfl
  | n :: l, k => by unfold fNs; rw [fN_eq, fNs_eq l]
def fD : D → (D → β) → β
  | .int i n, k => k (.int i n)
  | .bool b, k => k (.bool b)
  | .str s, k => k (.str s)
  | .nil, k => k .nil
  | .ls sz n r, k => k (.ls sz n r)
theorem fD_eq (d : D) (k : D → β) : fD d k = k d := by cases d <;> rfl
def fC : C → (C → β) → β
  | .t d, k => fD d fun d => k (.t d)
  | .nilp, k => k .nilp
  | .nilm, k => k .nilm
  | .nilf, k => k .nilf
  | .pa id n, k => fN id fun id => fN n fun n => k (.pa id n)
  | .ptr i o, k => fN i fun i => fN o fun o => k (.ptr i o)
  | .sl i o n, k => fN i fun i => k (.sl i o n)
  | .el i o n, k => fN i fun i => k (.el i o n)
  | .im d, k => k (.im d)
  | .mp i, k => fN i fun i => k (.mp i)
  | .bm f i o, k => fN i fun i => fN o fun o => k (.bm f i o)
  | .fn f cs, k => k (.fn f cs)
theorem fC_eq (c : C) (k : C → β) : fC c k = k c := by cases c <;> simp [fC, fD_eq, fN_eq]
def fCs : List C → (List C → β) → β
  | [], k => k []
  | c :: l, k => fC c fun c => fCs l fun l => k (c :: l)
theorem fCs_eq : ∀ (l : List C) (k : List C → β), fCs l k = k l
  | [], k => rfl
  | n :: l, k => by unfold fCs; rw [fC_eq, fCs_eq l]
def fE : E → (E → β) → β
  | .c c, k => fC c fun c => k (.c c)
  | .agg cs, k => fCs cs fun cs => k (.agg cs)
theorem fE_eq (c : E) (k : E → β) : fE c k = k c := by cases c <;> simp [fE, fC_eq, fCs_eq]
def fEs : List E → (List E → β) → β
  | [], k => k []
  | c :: l, k => fE c fun c => fEs l fun l => k (c :: l)
theorem fEs_eq : ∀ (l : List E) (k : List E → β), fEs l k = k l
  | [], k => rfl
  | n :: l, k => by unfold fEs; rw [fE_eq, fEs_eq l]
def fV : V → (V → β) → β
  | .e e, k => fE e fun e => k (.e e)
  | .tup es, k => fEs es fun es => k (.tup es)
  | .u, k => k .u
theorem fV_eq (c : V) (k : V → β) : fV c k = k c := by cases c <;> simp [fV, fE_eq, fEs_eq]
def fO : Ob → (Ob → β) → β
  | .dead, k => k .dead
  | .box cs, k => fCs cs fun cs => k (.box cs)
  | .arr sz rows, k => k (.arr sz rows)
  | .mp ag m, k => k (.mp ag m)
  | .cm ag m none, k => k (.cm ag m none)
  | .cm ag m (some (j, i, n)), k => fN i fun i => k (.cm ag m (some (j, i, n)))
  | .it mid since seen last, k => fN mid fun mid => k (.it mid since seen last)
  | .opq R, k => k (.opq R)
theorem fO_eq (c : Ob) (k : Ob → β) : fO c k = k c := by
  cases c with
  | cm ag m out => cases out with
    | none => rfl
    | some q => obtain ⟨j, i, n⟩ := q; simp [fO, fN_eq]
  | _ => simp [fO, fCs_eq, fN_eq]
def fOs : List Ob → (List Ob → β) → β
  | [], k => k []
  | c :: l, k => fO c fun c => fOs l fun l => k (c :: l)
theorem fOs_eq : ∀ (l : List Ob) (k : List Ob → β), fOs l k = k l
  | [], k => rfl
  | n :: l, k => by unfold fOs; rw [fO_eq, fOs_eq l]
def fPt (d : Option Nat) (v : V) (ρ : Env) (k : Env → β) : β := match d with
  | none => k ρ
  | some t => fV v fun v => k ((t, v) :: ρ)
theorem fPt_eq (d : Option Nat) (v : V) (ρ : Env) (k : Env → β) : fPt d v ρ k = k (pt d v ρ) := by cases d <;> simp [fPt, pt, fV_eq]
def fFt (s : Res) (base : Nat) (k : Ft → β) : β := fNs s.rd fun r => fNs s.ids fun i => fN base fun b => fN s.nw.length fun n => k ⟨r, i, b, n⟩
theorem fFt_eq (s : Res) (base : Nat) (k : Ft → β) : fFt s base k = k (s.ft base) := by simp [fFt, fN_eq, fNs_eq, Res.ft]
/-- The objects behind a step. -/
def fAp (s : Res) (hl : List Ob) (k : List Ob → β) : β := match s.wr, s.nw with
  | [], [] => k hl
  | wr, nw => fOs (setAll hl wr ++ nw) k
theorem fAp_eq (s : Res) (hl : List Ob) (k : List Ob → β) : fAp s hl k = k (appL s hl) := by
  unfold fAp
  split
  · rename_i h1 h2; simp [appL, h1, h2, setAll]
  · rw [fOs_eq]; rfl
end
/-- Sums and the like of Go's int that fit. -/
def exact (op : BinOp) : V → V → Option (Prop × V)
  | .e (.c (.t (.int .i64 a))), .e (.c (.t (.int .i64 b))) => match op with
    | .add => some (-9223372036854775808 ≤ a + b ∧ a + b ≤ 9223372036854775807, vI .i64 (a + b))
    | .sub => some (-9223372036854775808 ≤ a - b ∧ a - b ≤ 9223372036854775807, vI .i64 (a - b))
    | .mul => some (-9223372036854775808 ≤ a * b ∧ a * b ≤ 9223372036854775807, vI .i64 (a * b))
    | op => bin op (vI .i64 a) (vI .i64 b)
  | x, y => bin op x y
theorem exact_ok {op : BinOp} {v y x : V} {p : Prop} (h : exact op v y = some (p, x)) (hp : p) : ∃ q, bin op v y = some (q, x) ∧ q := by
  unfold exact at h
  split at h
  · split at h
    · cases h; exact ⟨True, by simp only [bin]; simp [IntWalk.i64_in _ hp], trivial⟩
    · cases h; exact ⟨True, by simp only [bin]; simp [IntWalk.i64_in _ hp], trivial⟩
    · cases h; exact ⟨True, by simp only [bin]; simp [IntWalk.i64_in _ hp], trivial⟩
    · exact ⟨p, h, hp⟩
  · exact ⟨p, h, hp⟩
def aopx (op : AOp) (ρ : Env) (h : List Ob) : PR :=
  match op with
  | .bin op x y => match ev ρ x, ev ρ y with
    | some x, some y => match exact op x y with
      | some (p, v) => some (p, { v := v })
      | none => none
    | _, _ => none
  | .conv .i64 x => match ev ρ x with
    | some (.e (.c (.t (.int _ n)))) => some (-9223372036854775808 ≤ n ∧ n ≤ 9223372036854775807, { v := vI .i64 n })
    | _ => none
  | op => aop op ρ h
theorem aopx_ok {op : AOp} {ρ : Env} {h : List Ob} {p : Prop} {s : Res} (ha : aopx op ρ h = some (p, s)) (hp : p) : ∃ q, aop op ρ h = some (q, s) ∧ q := by
  unfold aopx at ha
  split at ha
  · split at ha
    · rename_i x y e1 e2
      split at ha
      · rename_i p' v he
        cases ha
        obtain ⟨q, q1, q2⟩ := exact_ok he hp
        exact ⟨q, by simp only [aop, e1, e2, q1], q2⟩
      · cases ha
    · cases ha
  · split at ha
    · rename_i e1
      cases ha
      exact ⟨True, by simp only [aop, e1, ret]; simp [IntWalk.i64_in _ hp], trivial⟩
    · cases ha
  · exact ⟨p, ha, hp⟩
def idsB (hl : List Ob) (s : Res) : Bool := match s.wr with
  | [] => true
  | wr => (wr.map (·.1)).all fun i => Nat.blt i hl.length
theorem idsB_ok {hl : List Ob} {s : Res} (h : idsB hl s = true) : ∀ i ∈ s.ids, i < hl.length := by
  unfold idsB at h
  split at h
  · rename_i hw; intro i hi; simp [Res.ids, hw] at hi
  · intro i hi
    have := List.all_eq_true.1 h i hi
    simpa [Nat.blt_eq] using this
structure Rn where
  p : Prop
  rest : List AO
  ρ : Env
  hl : List Ob
  fs : List Ft
/-- The next n operations. -/
def runR (d : Bool) : Nat → List AO → Env → List Ob → List Ft → (Prop → Prop) → Option Rn
  | 0, os, ρ, hl, fs, c => some ⟨c True, os, ρ, hl, fs⟩
  | n + 1, [], ρ, hl, fs, c => some ⟨c True, [], ρ, hl, fs⟩
  | n + 1, o :: os, ρ, hl, fs, c => match grdB ρ o.grd with
    | some true => match aopx o.op ρ hl with
      | some (p, s) => match idsB hl s with
        | true => fPt o.dst s.v ρ fun ρ' => fAp s hl fun hl' => bif d then fFt s hl.length fun f => runR d n os ρ' hl' (fs ++ [f]) (fun q => c (p ∧ q)) else runR d n os ρ' hl' fs (fun q => c (p ∧ q))
        | false => none
      | none => none
    | some false => fPt o.dst .u ρ fun ρ' => bif d then fFt noRes hl.length fun f => runR d n os ρ' hl (fs ++ [f]) c else runR d n os ρ' hl fs c
    | none => none
section
variable {P : Program} {N : Nat} {o : AO} {os : List AO} {ρ : Env} {hl : List Ob} {fs : List Ft} {K : Env → List Ob → List Ft → Prop}
theorem runR_ok : ∀ (n : Nat) (os : List AO) (ρ : Env) (hl : List Ob) (fs : List Ft) (c : Prop → Prop) (hc : ∀ q, c q → q) {r : Rn}, runR true n os ρ hl fs c = some r → r.p → Rg P N r.rest r.ρ r.hl r.fs K → Rg P N os ρ hl fs K
  | 0, os, ρ, hl, fs, c, hc, r, h, hp, hk => by cases h; exact hk
  | n + 1, [], ρ, hl, fs, c, hc, r, h, hp, hk => by cases h; exact hk
  | n + 1, o :: os, ρ, hl, fs, c, hc, r, h, hp, hk => by
    unfold runR at h
    split at h
    · rename_i hg
      split at h
      · rename_i p s ha
        split at h
        · rename_i hi
          simp only [fPt_eq, fAp_eq, fFt_eq, cond_true] at h
          have hpre : ∀ (n : Nat) (os : List AO) (ρ : Env) (hl : List Ob) (fs : List Ft) (c : Prop → Prop) (X : Prop), (∀ q, c q → X) → ∀ {r : Rn}, runR true n os ρ hl fs c = some r → r.p → X := by
            intro n
            induction n with
            | zero => intro os ρ hl fs c X hX r h hp; cases h; exact hX _ hp
            | succ n ih =>
              intro os ρ hl fs c X hX r h hp
              cases os with
              | nil => cases h; exact hX _ hp
              | cons o os =>
                unfold runR at h
                split at h
                · split at h
                  · split at h
                    · simp only [fPt_eq, fAp_eq, fFt_eq, cond_true] at h
                      exact ih _ _ _ _ _ X (fun q hq => hX _ hq) h hp
                    · cases h
                  · cases h
                · simp only [fPt_eq, fFt_eq, cond_true] at h
                  exact ih _ _ _ _ _ X hX h hp
                · cases h
          obtain ⟨q, q1, q2⟩ := aopx_ok ha (hpre n os _ _ _ _ p (fun q hq => (hc _ hq).1) h hp)
          exact .inr ⟨hg, s, ⟨idsB_ok hi, fun o' ho => aop_ok ho q1 q2⟩, runR_ok n os _ _ _ _ (fun q hq => (hc _ hq).2) h hp hk⟩
        · cases h
      · cases h
    · rename_i hg
      simp only [fPt_eq, fFt_eq, cond_true] at h
      exact .inl ⟨hg, runR_ok n os _ _ _ c hc h hp hk⟩
    · cases h
/-- The next n operations, in any order. -/
theorem Rg.run (n : Nat) {p : Prop} {rest : List AO} {ρ' : Env} {hl' : List Ob} {fs' : List Ft} (h : runR true n os ρ hl fs (fun q => q) = some ⟨p, rest, ρ', hl', fs'⟩) (hp : p) (hk : Rg P N rest ρ' hl' fs' K) : Rg P N os ρ hl fs K :=
  runR_ok n os ρ hl fs _ (fun _ h => h) h hp hk
/-- One operation that was shown by hand. -/
theorem Rg.one (s : Res) {ρ' : Env} {hl' : List Ob} {f : Ft} (hg : o.grd = none) (ho : OpS P N o.op ρ hl s) (h1 : ∀ {β : Type} (k : Env → β), fPt o.dst s.v ρ k = k ρ') (h2 : ∀ {β : Type} (k : List Ob → β), fAp s hl k = k hl') (h3 : ∀ {β : Type} (k : Ft → β), fFt s hl.length k = k f)
    (hk : Rg P N os ρ' hl' (fs ++ [f]) K) : Rg P N (o :: os) ρ hl fs K := by
  have e1 := h1 (fun x => x)
  have e2 := h2 (fun x => x)
  have e3 := h3 (fun x => x)
  rw [fPt_eq] at e1
  rw [fAp_eq] at e2
  rw [fFt_eq] at e3
  exact .inr ⟨by rw [hg]; rfl, s, ho, by rw [e1, e2, e3]; exact hk⟩
theorem trOp_call {o : Oper} {f : FuncId} {axs : List AX} (h : trOp P o = some (.call f axs)) : ∃ c, o.op = .call c ∧ c.callee = .value (.func f) ∧ listM trX c.args.toList = some axs := by
  cases hop : o.op with
  | call c =>
    simp only [trOp, hop] at h
    split at h
    · cases h
    · rename_i args hargs
      split at h
      · rename_i g hcl
        split at h
        · split at h
          · cases h; exact ⟨c, rfl, hcl, hargs⟩
          · cases h
        · cases h
      · obtain ⟨x, _, hx⟩ := Option.map_eq_some_iff.1 h; cases hx
      all_goals try (cases h; done)
      all_goals try (split at h <;> try (cases h; done))
      all_goals try (split at h <;> try (cases h; done))
      all_goals try (split at h <;> try (cases h; done))
      all_goals try (split at h <;> try (cases h; done))
      all_goals try (split at h <;> try (cases h; done))
  | _ =>
    simp only [trOp, hop] at h
    try (split at h <;> try contradiction)
    all_goals try (cases h; done)
    all_goals try (obtain ⟨x, _, hx⟩ := Option.map_eq_some_iff.1 h; cases hx; done)
    all_goals try (split at h <;> try (cases h; done))
    all_goals try (obtain ⟨x, _, hx⟩ := Option.map_eq_some_iff.1 h; cases hx; done)
    all_goals try (split at h <;> try (cases h; done))
    all_goals try (obtain ⟨x, _, hx⟩ := Option.map_eq_some_iff.1 h; cases hx; done)
    all_goals try (split at h <;> try (cases h; done))
    all_goals try (obtain ⟨x, _, hx⟩ := Option.map_eq_some_iff.1 h; cases hx; done)
    all_goals try (split at h <;> try (cases h; done))
    all_goals try (obtain ⟨x, _, hx⟩ := Option.map_eq_some_iff.1 h; cases hx; done)
    all_goals try (split at h <;> try (cases h; done))
    all_goals try (obtain ⟨x, _, hx⟩ := Option.map_eq_some_iff.1 h; cases hx; done)
theorem trOp_callv {o : Oper} {ax : AX} {axs : List AX} (h : trOp P o = some (.callv ax axs)) : ∃ c x, o.op = .call c ∧ c.callee = .value x ∧ trX x = some ax ∧ listM trX c.args.toList = some axs := by
  cases hop : o.op with
  | call c =>
    simp only [trOp, hop] at h
    split at h
    · cases h
    · rename_i args hargs
      split at h
      · rename_i g hcl
        split at h
        · split at h
          · cases h
          · cases h
        · cases h
      · rename_i x _ hcl
        obtain ⟨ax', hx, he⟩ := Option.map_eq_some_iff.1 h
        cases he
        exact ⟨c, x, rfl, hcl, hx, hargs⟩
      all_goals try (cases h; done)
      all_goals try (split at h <;> try (cases h; done))
      all_goals try (split at h <;> try (cases h; done))
      all_goals try (split at h <;> try (cases h; done))
      all_goals try (split at h <;> try (cases h; done))
      all_goals try (split at h <;> try (cases h; done))
  | _ =>
    simp only [trOp, hop] at h
    all_goals try (split at h <;> try contradiction)
    all_goals try (cases h; done)
    all_goals try (obtain ⟨x, _, hx⟩ := Option.map_eq_some_iff.1 h; cases hx; done)
    all_goals try (split at h <;> try (cases h; done))
    all_goals try (obtain ⟨x, _, hx⟩ := Option.map_eq_some_iff.1 h; cases hx; done)
    all_goals try (split at h <;> try (cases h; done))
    all_goals try (obtain ⟨x, _, hx⟩ := Option.map_eq_some_iff.1 h; cases hx; done)
    all_goals try (split at h <;> try (cases h; done))
    all_goals try (obtain ⟨x, _, hx⟩ := Option.map_eq_some_iff.1 h; cases hx; done)
    all_goals try (split at h <;> try (cases h; done))
    all_goals try (obtain ⟨x, _, hx⟩ := Option.map_eq_some_iff.1 h; cases hx; done)
    all_goals try (split at h <;> try (cases h; done))
    all_goals try (obtain ⟨x, _, hx⟩ := Option.map_eq_some_iff.1 h; cases hx; done)
    all_goals try (split at h <;> try (cases h; done))
    all_goals try (obtain ⟨x, _, hx⟩ := Option.map_eq_some_iff.1 h; cases hx; done)
theorem trOp_idx {o : Oper} {sz : Nat} {ax ai : AX} (h : trOp P o = some (.idxAddr sz ax ai)) : ∃ t e x i, o.op = .indexAddr t x i ∧ trX x = some ax ∧ trX i = some ai ∧ P.underlying t = some (.slice e) ∧ sizeB P e = some sz := by
  cases hop : o.op with
  | indexAddr t x i =>
    simp only [trOp, hop] at h
    split at h
    · rename_i e ax' ai' h1 h2 h3
      split at h
      · rename_i sz' h4
        split at h
        · cases h; exact ⟨t, e, x, i, rfl, h2, h3, h1, h4⟩
        · cases h
      · cases h
    · obtain ⟨y, _, hy⟩ := Option.map_eq_some_iff.1 h; cases hy
    · cases h
  | _ =>
    simp only [trOp, hop] at h
    all_goals try (split at h <;> try contradiction)
    all_goals try (cases h; done)
    all_goals try (obtain ⟨x, _, hx⟩ := Option.map_eq_some_iff.1 h; cases hx; done)
    all_goals try (split at h <;> try (cases h; done))
    all_goals try (obtain ⟨x, _, hx⟩ := Option.map_eq_some_iff.1 h; cases hx; done)
    all_goals try (split at h <;> try (cases h; done))
    all_goals try (obtain ⟨x, _, hx⟩ := Option.map_eq_some_iff.1 h; cases hx; done)
    all_goals try (split at h <;> try (cases h; done))
    all_goals try (obtain ⟨x, _, hx⟩ := Option.map_eq_some_iff.1 h; cases hx; done)
    all_goals try (split at h <;> try (cases h; done))
    all_goals try (obtain ⟨x, _, hx⟩ := Option.map_eq_some_iff.1 h; cases hx; done)
    all_goals try (split at h <;> try (cases h; done))
    all_goals try (obtain ⟨x, _, hx⟩ := Option.map_eq_some_iff.1 h; cases hx; done)
    all_goals try (split at h <;> try (cases h; done))
    all_goals try (obtain ⟨x, _, hx⟩ := Option.map_eq_some_iff.1 h; cases hx; done)
theorem trOp_load {o : Oper} {n : Option Nat} {ax : AX} (h : trOp P o = some (.load n ax)) : ∃ t x, o.op = .load t x ∧ trX x = some ax ∧ cellsB P t = some n := by
  cases hop : o.op with
  | load t x =>
    simp only [trOp, hop] at h
    split at h
    · rename_i n' ax' h1 h2
      cases h; exact ⟨t, x, rfl, h2, h1⟩
    · cases h
  | _ =>
    simp only [trOp, hop] at h
    all_goals try (split at h <;> try contradiction)
    all_goals try (cases h; done)
    all_goals try (obtain ⟨x, _, hx⟩ := Option.map_eq_some_iff.1 h; cases hx; done)
    all_goals try (split at h <;> try (cases h; done))
    all_goals try (obtain ⟨x, _, hx⟩ := Option.map_eq_some_iff.1 h; cases hx; done)
    all_goals try (split at h <;> try (cases h; done))
    all_goals try (obtain ⟨x, _, hx⟩ := Option.map_eq_some_iff.1 h; cases hx; done)
    all_goals try (split at h <;> try (cases h; done))
    all_goals try (obtain ⟨x, _, hx⟩ := Option.map_eq_some_iff.1 h; cases hx; done)
    all_goals try (split at h <;> try (cases h; done))
    all_goals try (obtain ⟨x, _, hx⟩ := Option.map_eq_some_iff.1 h; cases hx; done)
    all_goals try (split at h <;> try (cases h; done))
    all_goals try (obtain ⟨x, _, hx⟩ := Option.map_eq_some_iff.1 h; cases hx; done)
    all_goals try (split at h <;> try (cases h; done))
    all_goals try (obtain ⟨x, _, hx⟩ := Option.map_eq_some_iff.1 h; cases hx; done)
theorem trOp_bstr {o : Oper} {ax : AX} (h : trOp P o = some (.bstr ax)) : ∃ s t e x, o.op = .convert s t x ∧ trX x = some ax ∧ P.underlying s = some (.slice e) ∧ P.underlying t = some .string ∧ P.underlying e = some (.int .u8) := by
  cases hop : o.op with
  | convert a t x =>
    simp only [trOp, hop] at h
    split at h
    · cases h
    · cases h
    · rename_i ax' e h1 h2 h3
      split at h
      · rename_i h4
        cases h; exact ⟨a, t, e, x, rfl, h1, h2, h3, h4⟩
      · cases h
    · cases h
  | _ =>
    simp only [trOp, hop] at h
    all_goals try (split at h <;> try contradiction)
    all_goals try (cases h; done)
    all_goals try (obtain ⟨x, _, hx⟩ := Option.map_eq_some_iff.1 h; cases hx; done)
    all_goals try (split at h <;> try (cases h; done))
    all_goals try (obtain ⟨x, _, hx⟩ := Option.map_eq_some_iff.1 h; cases hx; done)
    all_goals try (split at h <;> try (cases h; done))
    all_goals try (obtain ⟨x, _, hx⟩ := Option.map_eq_some_iff.1 h; cases hx; done)
    all_goals try (split at h <;> try (cases h; done))
    all_goals try (obtain ⟨x, _, hx⟩ := Option.map_eq_some_iff.1 h; cases hx; done)
    all_goals try (split at h <;> try (cases h; done))
    all_goals try (obtain ⟨x, _, hx⟩ := Option.map_eq_some_iff.1 h; cases hx; done)
    all_goals try (split at h <;> try (cases h; done))
    all_goals try (obtain ⟨x, _, hx⟩ := Option.map_eq_some_iff.1 h; cases hx; done)
    all_goals try (split at h <;> try (cases h; done))
    all_goals try (obtain ⟨x, _, hx⟩ := Option.map_eq_some_iff.1 h; cases hx; done)
theorem OpS.call {f : FuncId} {axs : List AX} {avs vs : List V} (σ τ : List Nat) {hs hs' : List Ob} {r : V} (hev : evs ρ axs = some avs) (hbv : listM (V.bk σ τ hl) avs = some vs) {pv : Prop} (hvw : vwVs σ τ hl avs True some = some pv) (hpv : pv) (hbo : listM (Ob.bk σ hl) (σ.map (hx hl)) = some hs)
    (hc : ((decide (σ ++ τ).Nodup && (σ ++ τ).all (fun i => decide (i < hl.length))) && (hs'.all Ob.ok && r.ok)) = true) (hfn : FnOk P f vs hs r hs') : OpS P N (.call f axs) ρ hl (callRes σ τ hl.length r hs') := by
  simp only [Bool.and_eq_true] at hc
  refine ⟨fun i hi => ?_, fun o ho => ?_⟩
  · have : i ∈ σ ++ τ := by
      simp only [callRes, Res.ids, List.map_append, wrs_ids, List.map_map] at hi
      simpa using hi
    simpa using List.all_eq_true.1 hc.1.2 i this
  · obtain ⟨c, c1, c2, c3⟩ := trOp_call ho
    exact s_call (callOf_fn c1 c2 c3 (fun y hy => mem_xts (by simpa [AOp.xs] using hy)) hev) hbv (vwVs_get hvw hpv) hbo hfn (by simpa using hc.1.1) hc.1.2 hc.2.1 hc.2.2
theorem OpS.callv {f : FuncId} {cs : List C} {x : AX} {axs : List AX} {avs vs : List V} (σ τ : List Nat) {hs hs' : List Ob} {r : V} (hf : ev ρ x = some (vC (.fn f cs))) (hev : evs ρ axs = some avs) (hbv : listM (V.bk σ τ hl) (avs ++ cs.map vC) = some vs) {pv : Prop} (hvw : vwVs σ τ hl (avs ++ cs.map vC) True some = some pv) (hpv : pv) (hbo : listM (Ob.bk σ hl) (σ.map (hx hl)) = some hs)
    (hc : ((decide (σ ++ τ).Nodup && (σ ++ τ).all (fun i => decide (i < hl.length))) && (hs'.all Ob.ok && r.ok)) = true) (hfn : FnOk P f vs hs r hs') : OpS P N (.callv x axs) ρ hl (callRes σ τ hl.length r hs') := by
  simp only [Bool.and_eq_true] at hc
  refine ⟨fun i hi => ?_, fun o ho => ?_⟩
  · have : i ∈ σ ++ τ := by
      simp only [callRes, Res.ids, List.map_append, wrs_ids, List.map_map] at hi
      simpa using hi
    simpa using List.all_eq_true.1 hc.1.2 i this
  · obtain ⟨c, x', c1, c2, c4, c3⟩ := trOp_callv ho
    exact s_call (callOf_val c1 c2 c4 (mem_xts (by simp [AOp.xs])) hf c3 (fun y hy => mem_xts (by simp [AOp.xs, hy])) hev) hbv (vwVs_get hvw hpv) hbo hfn (by simpa using hc.1.1) hc.1.2 hc.2.1 hc.2.2
theorem OpS.callm {f : FuncId} {id off : Nat} {x : AX} {axs : List AX} {avs vs : List V} (σ τ : List Nat) {hs hs' : List Ob} {r : V} (hf : ev ρ x = some (vC (.bm f id off))) (hev : evs ρ axs = some avs) (hbv : listM (V.bk σ τ hl) (vC (.ptr id off) :: avs) = some vs) {pv : Prop} (hvw : vwVs σ τ hl (vC (.ptr id off) :: avs) True some = some pv) (hpv : pv) (hbo : listM (Ob.bk σ hl) (σ.map (hx hl)) = some hs)
    (hc : ((decide (σ ++ τ).Nodup && (σ ++ τ).all (fun i => decide (i < hl.length))) && (hs'.all Ob.ok && r.ok)) = true) (hfn : FnOk P f vs hs r hs') : OpS P N (.callv x axs) ρ hl (callRes σ τ hl.length r hs') := by
  simp only [Bool.and_eq_true] at hc
  refine ⟨fun i hi => ?_, fun o ho => ?_⟩
  · have : i ∈ σ ++ τ := by
      simp only [callRes, Res.ids, List.map_append, wrs_ids, List.map_map] at hi
      simpa using hi
    simpa using List.all_eq_true.1 hc.1.2 i this
  · obtain ⟨c, x', c1, c2, c4, c3⟩ := trOp_callv ho
    exact s_call (callOf_bm c1 c2 c4 (mem_xts (by simp [AOp.xs])) hf c3 (fun y hy => mem_xts (by simp [AOp.xs, hy])) hev) hbv (vwVs_get hvw hpv) hbo hfn (by simpa using hc.1.1) hc.1.2 hc.2.1 hc.2.2
theorem OpS.lend {f : FuncId} {axs : List AX} {avs vs : List V} (τ : List Nat) {r : V} (hev : evs ρ axs = some avs) (hbv : listM (V.bk [] τ hl) avs = some vs) {pv : Prop} (hvw : vwVs [] τ hl avs True some = some pv) (hpv : pv) (hp : r.plain = true) (hfn : FnOk P f vs [] r []) : OpS P N (.call f axs) ρ hl { v := r, rd := τ } := by
  refine ⟨fun i hi => by simp [Res.ids] at hi, fun o ho => ?_⟩
  obtain ⟨c, c1, c2, c3⟩ := trOp_call ho
  exact s_lend (callOf_fn c1 c2 c3 (fun y hy => mem_xts (by simpa [AOp.xs] using hy)) hev) hbv (vwVs_get hvw hpv) hfn hp
theorem OpS.opi {op : AOp} (r : List D) {p : Prop} {s : Res} (ha : aopi op ρ hl r = some (p, s)) (hp : p) : OpS P N op ρ hl s := by
  have hs : s.ids = [] := by
    unfold aopi at ha
    split at ha
    · split at ha <;> cases ha; rfl
    · split at ha
      · split at ha
        · split at ha
          · split at ha <;> cases ha; rfl
          · cases ha; rfl
        · cases ha
      · cases ha
    · cases ha
  refine ⟨fun i hi => (by rw [hs] at hi; cases hi), fun o ho => ?_⟩
  cases op with
  | idxAddr sz ax ai => obtain ⟨t, e, x, i, c1, c2, c3, c4, c5⟩ := trOp_idx ho; exact s_idxAddrI c1 c2 c3 (mem_xts (by simp [AOp.xs])) (mem_xts (by simp [AOp.xs])) c4 c5 ha hp
  | load n ax => obtain ⟨t, x, c1, c2, c3⟩ := trOp_load ho; exact s_loadI c1 c2 (mem_xts (by simp [AOp.xs])) c3 ha hp
  | _ => cases ha
theorem OpS.opb {ax : AX} (r : List Int) {p : Prop} {s : Res} (ha : aopb (.bstr ax) ρ hl r = some (p, s)) (hp : p) : OpS P N (.bstr ax) ρ hl s := by
  have hs : s.ids = [] := by
    simp only [aopb] at ha
    split at ha <;> cases ha
    rfl
  refine ⟨fun i hi => (by rw [hs] at hi; cases hi), fun o ho => ?_⟩
  obtain ⟨a, t, e, x, c1, c2, c3, c4, c5⟩ := trOp_bstr ho
  exact s_bstr c1 c2 (mem_xts (by simp [AOp.xs])) c3 c4 c5 ha hp
end
end Go.Proofs.YthddlkhfkncgpaaGreat
set_option linter.unusedVariables false
set_option linter.unusedSimpArgs false
namespace Go.Proofs.YthddlkhfkncgpaaGreat
open Go.RowKit

def fEnv {β : Type} : Nat → List V → (Env → β) → β
  | _, [], k => k []
  | n, v :: l, k => fN n fun m => fEnv (n + 1) l fun r => k ((m, v) :: r)
theorem fEnv_eq {β : Type} : ∀ (n : Nat) (l : List V) (k : Env → β), fEnv n l k = k (env0 n l)
  | _, [], k => rfl
  | n, v :: l, k => by unfold fEnv; rw [fN_eq, fEnv_eq (n + 1) l]; rfl
/-- The end of a function that gives r and leaves the objects hs. -/
def RetQ (res : List AR) (n0 : Nat) (r : V) (hs : List Ob) (ex : Exit) (ρ : Env) (hl : List Ob) : Prop := (ex = .normal ∨ ex = .ret) ∧ ∃ r0 hs0, Fin res n0 ρ hl r0 hs0 ∧ V.le r0 r ∧ LeOs hs0 hs
theorem FnOk.start {P : Program} {f : FuncId} {np N n0 : Nat} {body : AC} {res : List AR} {vs : List V} {ρ : Env} {hs hs' : List Ob} {r : V} (hf : FnAt P f ⟨np, N, body, res⟩) (hlen : vs.length = np) (hn : fN hs.length some = some n0) (hρ : fEnv 0 vs some = some ρ)
    (h : Tri P N n0 body ρ hs (RetQ res n0 r hs')) : FnOk P f vs hs r hs' := by
  obtain ⟨fn, h1, h2, h3⟩ := hf
  rw [fEnv_eq] at hρ
  rw [fN_eq] at hn
  cases hρ
  cases hn
  exact FnOk.intro h1 h2 (by intro h; rw [h] at h3; simp at h3) hlen h
def ndB : List Nat → Bool
  | [] => true
  | x :: l => !(l.any fun y => Nat.beq x y) && ndB l
theorem ndB_ok : ∀ {l : List Nat}, ndB l = true → l.Nodup
  | [], _ => List.nodup_nil
  | x :: l, h => by
    unfold ndB at h
    simp only [Bool.and_eq_true, Bool.not_eq_true', List.any_eq_false] at h
    refine List.nodup_cons.2 ⟨fun hx => ?_, ndB_ok h.2⟩
    have := h.1 x hx
    simp at this
def eqLB : List Nat → List Nat → Bool
  | [], [] => true
  | x :: l, y :: m => Nat.beq x y && eqLB l m
  | _, _ => false
theorem eqLB_ok : ∀ {l m : List Nat}, eqLB l m = true → l = m
  | [], [], _ => rfl
  | x :: l, y :: m, h => by
    unfold eqLB at h
    simp only [Bool.and_eq_true] at h
    rw [Nat.eq_of_beq_eq_true h.1, eqLB_ok h.2]
  | [], _ :: _, h => by cases h
  | _ :: _, [], h => by cases h
def finR (res : List AR) (σ τ : List Nat) (n0 : Nat) (ρ : Env) (hl : List Ob) : Option (Prop × V × List Ob) :=
  match arEs ρ hl res with
  | some (p, es) => match (oneV es).bk σ τ hl, listM (Ob.bk σ hl) (σ.map (hx hl)) with
    | some r, some hs => match ndB (σ ++ τ) && eqLB (σ.take n0) (List.range n0) with
      | true => (oneV es).vw σ τ hl p fun p => fV r fun r => fOs hs fun hs => some (p, r, hs)
      | false => none
    | _, _ => none
  | none => none
section
variable {P : Program} {N n0 : Nat} {ρ ρ' : Env} {hl hl' : List Ob} {Q : Exit → Env → List Ob → Prop} {res : List AR} {r : V} {hs : List Ob}
theorem Fin.of (σ τ : List Nat) {p : Prop} {r' : V} {hs' : List Ob} (h : finR res σ τ n0 ρ hl = some (p, r', hs')) (hp : p) (hr : r' = r) (hh : hs' = hs) : Fin res n0 ρ hl r hs := by
  unfold finR at h
  split at h
  · rename_i p' es h1
    split at h
    · rename_i r0 hs0 h2 h3
      split at h
      · rename_i h4
        rw [vwV_k] at h
        simp only [fV_eq, fOs_eq] at h
        simp only [Bool.and_eq_true] at h4
        cases h
        subst hr hh
        obtain ⟨hv, hp⟩ := vwV_ok _ _ hp
        exact ⟨σ, τ, _, es, h1, hp, hv, h2, h3, ndB_ok h4.1, eqLB_ok h4.2⟩
      · cases h
    · cases h
  · cases h
theorem RetQ.of (σ τ : List Nat) {p : Prop} {r' : V} {hs' : List Ob} (h : finR res σ τ n0 ρ hl = some (p, r', hs')) (hp : p) (hr : V.le r' r) (hh : hs' = hs) : RetQ res n0 r hs .ret ρ hl :=
  ⟨.inr rfl, r', hs', Fin.of σ τ h hp rfl rfl, hr, .of hh⟩
theorem RetQ.le (σ τ : List Nat) {p : Prop} {r' : V} {hs' : List Ob} (h : finR res σ τ n0 ρ hl = some (p, r', hs')) (hp : p) (hr : V.le r' r) (hh : LeOs hs' hs) : RetQ res n0 r hs .ret ρ hl :=
  ⟨.inr rfl, r', hs', Fin.of σ τ h hp rfl rfl, hr, hh⟩
theorem Tri.retn (σ τ : List Nat) {p : Prop} {r' : V} {hs' : List Ob} (h : finR res σ τ n0 ρ hl = some (p, r', hs')) (hp : p) (hr : V.le r' r) (hh : LeOs hs' hs) : Tri P N n0 .ret ρ hl (RetQ res n0 r hs) :=
  Tri.ret ⟨.inr rfl, r', hs', Fin.of σ τ h hp rfl rfl, hr, hh⟩
def ordU (up : Option (List (List Nat))) (fs : List Ft) : Bool := match up with
  | none => true
  | some u => ordB u fs
theorem Rg.last {l : List AO} {fs : List Ft} {K : Env → List Ob → List Ft → Prop} {p : Prop} {fs' : List Ft} (h : runR true 400 l ρ hl fs (fun q => q) = some ⟨p, [], ρ', hl', fs'⟩) (hp : p) (hk : K ρ' hl' fs') : Rg P N l ρ hl fs K := Rg.run 400 h hp hk
/-- A region as a whole. -/
theorem Tri.one {l : List AO} {up : Option (List (List Nat))} {p : Prop} {fs' : List Ft} (h : runR true 400 l ρ hl [] (fun q => q) = some ⟨p, [], ρ', hl', fs'⟩) (hu : ordU up fs' = true) (hp : p) (hk : Q .normal ρ' hl') : Tri P N n0 (.region l up) ρ hl Q :=
  Tri.region (Rg.last h hp ⟨fun u he => by subst he; exact hu, hk⟩)
theorem Tri.sr {l : List AO} {up : Option (List (List Nat))} {y : AC} {p : Prop} {fs' : List Ft} (h : runR true 400 l ρ hl [] (fun q => q) = some ⟨p, [], ρ', hl', fs'⟩) (hu : ordU up fs' = true) (hp : p) (hk : Tri P N n0 y ρ' hl' Q) : Tri P N n0 (.seq (.region l up) y) ρ hl Q :=
  Tri.seq (Tri.one h hu hp hk)
/-- A region, step by step. -/
theorem Tri.sg {l : List AO} {up : Option (List (List Nat))} {y : AC} (h : Rg P N l ρ hl [] (fun ρ' hl' fs => ordU up fs = true ∧ Tri P N n0 y ρ' hl' Q)) : Tri P N n0 (.seq (.region l up) y) ρ hl Q :=
  Tri.seq (Tri.region (Rg.mono' h fun ρ' hl' fs ⟨h1, h2⟩ => ⟨fun u he => by subst he; exact h1, h2⟩))
theorem Tri.gs {l : List AO} {up : Option (List (List Nat))} (h : Rg P N l ρ hl [] (fun ρ' hl' fs => ordU up fs = true ∧ Q .normal ρ' hl')) : Tri P N n0 (.region l up) ρ hl Q :=
  Tri.region (Rg.mono' h fun ρ' hl' fs ⟨h1, h2⟩ => ⟨fun u he => by subst he; exact h1, h2⟩)
/-- Where two roads meet. -/
theorem Tri.mid {x y : AC} (R : Env → List Ob → Prop) (h : Tri P N n0 x ρ hl (thenQ R Q)) (k : ∀ ρ' hl', R ρ' hl' → Tri P N n0 y ρ' hl' Q) : Tri P N n0 (.seq x y) ρ hl Q :=
  Tri.seq (Tri.mono h fun ex ρ' hl' hq => by cases ex <;> first | exact k _ _ hq | exact hq)
/-- What the temporaries of a list hold, nothing else. -/
def Is (live : List Nat) (ρ' : Env) (ρ : Env) : Prop := keepE ρ live = some ρ'
theorem Tri.is {c : AC} {live : List Nat} (hk : Is live ρ' ρ) (h : Tri P N n0 c ρ' hl Q) : Tri P N n0 c ρ hl Q := Tri.keep live hk h
end
end Go.Proofs.YthddlkhfkncgpaaGreat
set_option linter.unusedVariables false
set_option linter.unusedSimpArgs false
namespace Go.Proofs.YthddlkhfkncgpaaGreat
open Go.RowKit

def setE {β : Type} (t : Nat) (v : V) : Env → (Env → β) → β
  | [], k => k []
  | (u, x) :: r, k => bif Nat.beq u t then k ((u, v) :: r) else setE t v r fun r => k ((u, x) :: r)
theorem setE_k {β : Type} (t : Nat) (v : V) : ∀ (ρ : Env) (k : Env → β), setE t v ρ k = k (setE t v ρ id)
  | [], k => rfl
  | (u, x) :: r, k => by
    unfold setE
    cases Nat.beq u t
    · simp only [cond_false]
      rw [setE_k t v r, setE_k t v r (fun r => id ((u, x) :: r))]
      rfl
    · rfl
theorem setE_get {t : Nat} {v : V} : ∀ {ρ : Env}, get ρ t = some v → ∀ u, get (setE t v ρ id) u = get ρ u
  | [], h, u => rfl
  | (q, x) :: r, h, u => by
    simp only [get] at h
    unfold setE
    cases hq : Nat.beq q t with
    | true => rw [hq] at h; simp only [cond_true] at h ⊢; cases h; rfl
    | false =>
      rw [hq] at h
      simp only [cond_false] at h ⊢
      rw [setE_k]
      simp only [id, get]
      cases Nat.beq q u
      · simp only [cond_false]; exact setE_get h u
      · rfl
section
variable {P : Program} {N n0 : Nat} {o : AO} {os : List AO} {ρ ρ' : Env} {hl hl' : List Ob} {fs : List Ft} {f' : Ft} {K : Env → List Ob → List Ft → Prop} {Q : Exit → Env → List Ob → Prop}
/-- Two tables that answer alike. -/
theorem ev_same {ρ ρ' : Env} (h : ∀ u, get ρ' u = get ρ u) (x : AX) : ev ρ' x = ev ρ x := by cases x <;> simp [ev, h]
theorem EnvAll.same {w : World} {g : Gh} {a : Act} {ρ ρ' : Env} (h : ∀ u, get ρ' u = get ρ u) (he : EnvAll w g a ρ) : EnvAll w g a ρ' := fun t v hv => he t v (by rw [← h]; exact hv)
theorem OpS.same {op : AOp} {s : Res} (h : ∀ u, get ρ' u = get ρ u) (ho : OpS P N op ρ' hl s) : OpS P N op ρ hl s :=
  ⟨ho.1, fun o' ht a w g hh hN hrd hnw hR he => ho.2 o' ht a w g hh hN hrd hnw hR fun t ht v hv => he t ht v (by rw [← h]; exact hv)⟩
theorem Tri.same {c : AC} (h : ∀ u, get ρ' u = get ρ u) (ht : Tri P N n0 c ρ' hl Q) : Tri P N n0 c ρ hl Q :=
  fun code hc w0 g0 h0 df a w ⟨h1, h2, h3, g, hR, hμ, he, hF⟩ => ht code hc w0 g0 h0 df a w ⟨h1, h2, h3, g, hR, hμ, he.same h, hF⟩
def getB (ρ : Env) (t : Nat) : Option Bool := match get ρ t with
  | some (.e (.c (.t (.bool b)))) => some b
  | _ => none
/-- The two cases of a bit. -/
theorem Tri.bit {c : AC} (t : Nat) {b : Bool} {ρt ρf : Env} (hv : getB ρ t = some b) (h1 : setE t (vB true) ρ some = some ρt) (h2 : setE t (vB false) ρ some = some ρf) (ht : b = true → Tri P N n0 c ρt hl Q) (hf : b = false → Tri P N n0 c ρf hl Q) : Tri P N n0 c ρ hl Q := by
  rw [setE_k] at h1 h2
  cases h1
  cases h2
  have hg : get ρ t = some (vB b) := by
    unfold getB at hv
    split at hv
    · rename_i b' h; cases hv; exact h
    · cases hv
  cases b with
  | true => exact Tri.same (setE_get hg) (ht rfl)
  | false => exact Tri.same (setE_get hg) (hf rfl)
theorem grdB_same (h : ∀ u, get ρ' u = get ρ u) (g : Option (Nat × Bool)) : grdB ρ' g = grdB ρ g := by unfold grdB; split <;> simp [h]
theorem Rg.same : ∀ {os : List AO} {ρ ρ' : Env} {hl : List Ob} {fs : List Ft}, (∀ u, get ρ' u = get ρ u) → (∀ ρ ρ' hl fs, (∀ u, get ρ' u = get ρ u) → K ρ' hl fs → K ρ hl fs) → Rg P N os ρ' hl fs K → Rg P N os ρ hl fs K
  | [], ρ, ρ', hl, fs, h, hK, hr => hK _ _ _ _ h hr
  | o :: os, ρ, ρ', hl, fs, h, hK, hr => by
    have hpt : ∀ v u, get (pt o.dst v ρ') u = get (pt o.dst v ρ) u := fun v u => by rw [get_pt, get_pt, h]
    rcases hr with ⟨h1, h2⟩ | ⟨h1, s, h2, h3⟩
    · exact .inl ⟨by rw [← grdB_same h]; exact h1, Rg.same (hpt _) hK h2⟩
    · exact .inr ⟨by rw [← grdB_same h]; exact h1, s, h2.same h, Rg.same (hpt _) hK h3⟩
/-- What comes behind asks the table only by its answers. -/
theorem Rg.bit (t : Nat) {b : Bool} {ρt ρf : Env} {c : AC} {up : Option (List (List Nat))} (hv : getB ρ t = some b) (h1 : setE t (vB true) ρ some = some ρt) (h2 : setE t (vB false) ρ some = some ρf)
    (ht : b = true → Rg P N os ρt hl fs (fun ρ' hl' fs => ordU up fs = true ∧ Tri P N n0 c ρ' hl' Q)) (hf : b = false → Rg P N os ρf hl fs (fun ρ' hl' fs => ordU up fs = true ∧ Tri P N n0 c ρ' hl' Q)) : Rg P N os ρ hl fs (fun ρ' hl' fs => ordU up fs = true ∧ Tri P N n0 c ρ' hl' Q) := by
  rw [setE_k] at h1 h2
  cases h1
  cases h2
  have hg : get ρ t = some (vB b) := by
    unfold getB at hv
    split at hv
    · rename_i b' h; cases hv; exact h
    · cases hv
  have hK : ∀ ρ ρ' hl (fs : List Ft), (∀ u, get ρ' u = get ρ u) → (ordU up fs = true ∧ Tri P N n0 c ρ' hl Q) → (ordU up fs = true ∧ Tri P N n0 c ρ hl Q) := fun ρ ρ' hl fs h ⟨k1, k2⟩ => ⟨k1, k2.same h⟩
  cases b with
  | true => exact Rg.same (setE_get hg) hK (ht rfl)
  | false => exact Rg.same (setE_get hg) hK (hf rfl)
theorem Rg.by (s : Res) (hg : o.grd = none) (ho : OpS P N o.op ρ hl s) (h1 : fPt o.dst s.v ρ some = some ρ') (h2 : fAp s hl some = some hl') (h3 : fFt s hl.length some = some f') (hk : Rg P N os ρ' hl' (fs ++ [f']) K) : Rg P N (o :: os) ρ hl fs K := by
  rw [fPt_eq] at h1
  rw [fAp_eq] at h2
  rw [fFt_eq] at h3
  cases h1; cases h2; cases h3
  exact .inr ⟨by rw [hg]; rfl, s, ho, hk⟩
/-- A call. -/
theorem Rg.call {d : Option Nat} {f : FuncId} {axs : List AX} {avs vs : List V} (σ τ : List Nat) {hs hs' : List Ob} {r : V} (hfn : FnOk P f vs hs r hs') (hev : evs ρ axs = some avs) (hbv : listM (V.bk σ τ hl) avs = some vs) {pv : Prop} (hvw : vwVs σ τ hl avs True some = some pv) (hbo : listM (Ob.bk σ hl) (σ.map (hx hl)) = some hs)
    (hc : ((decide (σ ++ τ).Nodup && (σ ++ τ).all (fun i => decide (i < hl.length))) && (hs'.all Ob.ok && r.ok)) = true) (h1 : fPt d (callRes σ τ hl.length r hs').v ρ some = some ρ') (h2 : fAp (callRes σ τ hl.length r hs') hl some = some hl') (h3 : fFt (callRes σ τ hl.length r hs') hl.length some = some f')
    (hpv : pv) (hk : Rg P N os ρ' hl' (fs ++ [f']) K) : Rg P N (⟨d, .call f axs, none⟩ :: os) ρ hl fs K :=
  Rg.by _ rfl (OpS.call σ τ hev hbv hvw hpv hbo hc hfn) h1 h2 h3 hk
/-- A call whose result leads nowhere: what is lent stays. -/
theorem Rg.lend {d : Option Nat} {f : FuncId} {axs : List AX} {avs vs : List V} (τ : List Nat) {r : V} (hfn : FnOk P f vs [] r []) (hev : evs ρ axs = some avs) (hbv : listM (V.bk [] τ hl) avs = some vs) {pv : Prop} (hvw : vwVs [] τ hl avs True some = some pv) (hp : r.plain = true)
    (h1 : fPt d r ρ some = some ρ') (h3 : fFt { v := r, rd := τ } hl.length some = some f') (hpv : pv) (hk : Rg P N os ρ' hl (fs ++ [f']) K) : Rg P N (⟨d, .call f axs, none⟩ :: os) ρ hl fs K :=
  Rg.by _ rfl (OpS.lend τ hev hbv hvw hpv hp hfn) h1 rfl h3 hk
/-- A place of a list. -/
theorem Rg.at (r : List D) {d : Option Nat} {op : AOp} {p : Prop} {s : Res} (ha : aopi op ρ hl r = some (p, s)) (h1 : fPt d s.v ρ some = some ρ') (h2 : fAp s hl some = some hl') (h3 : fFt s hl.length some = some f') (hp : p) (hk : Rg P N os ρ' hl' (fs ++ [f']) K) : Rg P N (⟨d, op, none⟩ :: os) ρ hl fs K :=
  Rg.by _ rfl (OpS.opi r ha hp) h1 h2 h3 hk
theorem Rg.text (r : List Int) {d : Option Nat} {ax : AX} {p : Prop} {s : Res} (ha : aopb (.bstr ax) ρ hl r = some (p, s)) (h1 : fPt d s.v ρ some = some ρ') (h2 : fAp s hl some = some hl') (h3 : fFt s hl.length some = some f') (hp : p) (hk : Rg P N os ρ' hl' (fs ++ [f']) K) : Rg P N (⟨d, .bstr ax, none⟩ :: os) ρ hl fs K :=
  Rg.by _ rfl (OpS.opb r ha hp) h1 h2 h3 hk
/-- Objects and temporaries out of sight; lists that do not change any more as data. -/
def vwEnv {β : Type} (σ τ : List Nat) (hl : List Ob) (ρ : Env) : List Nat → Prop → (Prop → β) → β
  | [], acc, k => k acc
  | t :: ts, acc, k => vwEnv σ τ hl ρ ts acc fun q => match get ρ t with
    | some v => v.vw σ τ hl q k
    | none => k q
theorem vwEnv_k {β : Type} (σ τ : List Nat) (hl : List Ob) (ρ : Env) : ∀ (ts : List Nat) (q : Prop) (k : Prop → β), vwEnv σ τ hl ρ ts q k = k (vwEnv σ τ hl ρ ts q id)
  | [], q, k => rfl
  | t :: ts, q, k => by
    unfold vwEnv
    cases hg : get ρ t with
    | none => simp only []; rw [vwEnv_k σ τ hl ρ ts, vwEnv_k σ τ hl ρ ts q (fun q => id q)]
    | some v => simp only []; rw [vwEnv_k σ τ hl ρ ts, vwEnv_k σ τ hl ρ ts q (fun q => v.vw σ τ hl q id), vwV_k]
theorem vwEnv_ok (σ τ : List Nat) (hl : List Ob) (ρ : Env) : ∀ (ts : List Nat) (q : Prop), vwEnv σ τ hl ρ ts q id → (∀ t ∈ ts, ∀ v, get ρ t = some v → v.Vw σ τ hl) ∧ q
  | [], q, h => ⟨fun _ ht => (nomatch ht), h⟩
  | t :: ts, q, h => by
    unfold vwEnv at h
    rw [vwEnv_k] at h
    have : (∀ v, get ρ t = some v → v.Vw σ τ hl) ∧ vwEnv σ τ hl ρ ts q id := by
      split at h
      · rename_i v hv
        obtain ⟨h1, h2⟩ := vwV_ok v _ h
        exact ⟨fun v' hv' => by rw [hv] at hv'; cases hv'; exact h1, h2⟩
      · rename_i hv
        exact ⟨fun v' hv' => by (rw [hv] at hv'; cases hv'), h⟩
    obtain ⟨h3, h4⟩ := vwEnv_ok σ τ hl ρ ts q this.2
    exact ⟨fun x hx v hv => (List.mem_cons.1 hx).elim (fun e => this.1 v (e ▸ hv)) (fun hx => h3 x hx v hv), h4⟩
def fEnvF {β : Type} : Env → (Env → β) → β
  | [], k => k []
  | (t, v) :: r, k => fV v fun v => fEnvF r fun r => k ((t, v) :: r)
theorem fEnvF_eq {β : Type} : ∀ (ρ : Env) (k : Env → β), fEnvF ρ k = k ρ
  | [], k => rfl
  | (t, v) :: r, k => by unfold fEnvF; rw [fV_eq, fEnvF_eq r]
/-- All that is left out, at once. -/
def subR (σ τ live : List Nat) (n0 : Nat) (ρ : Env) (hl : List Ob) : Option (Prop × Env × List Ob) :=
  match listM (Ob.bk σ hl) (σ.map (hx hl)), bkEnv σ τ hl ρ live with
  | some hs, some ρ' => match ndB (σ ++ τ) && eqLB (σ.take n0) (List.range n0) with
    | true => vwEnv σ τ hl ρ live True fun p => fEnvF ρ' fun ρ' => fOs hs fun hs => some (p, ρ', hs)
    | false => none
  | _, _ => none
theorem Tri.let {c : AC} (σ τ live : List Nat) {p : Prop} {hs : List Ob} (h : subR σ τ live n0 ρ hl = some (p, ρ', hs)) (hp : p) (hk : Tri P N n0 c ρ' hs Q) : Tri P N n0 c ρ hl Q := by
  unfold subR at h
  split at h
  · rename_i hs0 ρ0 h2 h3
    split at h
    · rename_i h4
      rw [vwEnv_k] at h
      simp only [fEnvF_eq, fOs_eq] at h
      simp only [Bool.and_eq_true] at h4
      cases h
      intro code hc w0 g0 h0 df a w ha
      exact hk code hc w0 g0 h0 df a w (ha.sub h2 (vwEnv_ok _ _ _ _ _ _ hp).1 h3 (ndB_ok h4.1) (eqLB_ok h4.2))
    · cases h
  · cases h
/-- A loop. -/
theorem Tri.lp {x : AC} (J : Nat → Env → List Ob → Prop) (n : Nat) (h0 : J n ρ hl) (round : ∀ n ρ hl, J n ρ hl → Tri P N n0 x ρ hl (thenQ (fun ρ' hl' => ∃ m, m < n ∧ J m ρ' hl') Q)) : Tri P N n0 (.loop x) ρ hl Q := Tri.loop J h0 round
end
/-- Bytes, words, numbers, bits as rows. -/
def rI (k : IntKind) (l : List Int) : List (List D) := l.map fun x => [.int k x]
def rF (l : List Bool) : List (List D) := l.map fun b => [.bool b]
abbrev lI (k : IntKind) (l : List Int) : D := .ls 1 l.length (rI k l)
abbrev lF (l : List Bool) : D := .ls 1 l.length (rF l)
abbrev vBy (l : List Int) : V := .e (.c (.t (.ls 1 l.length (rI .u8 l))))
abbrev vWd (l : List Int) : V := .e (.c (.t (.ls 1 l.length (rI .u16 l))))
abbrev vFs (l : List Bool) : V := .e (.c (.t (.ls 1 l.length (rF l))))
section
variable {k : IntKind} {l m : List Int} {n i : Nat} {x : Int}
@[simp] theorem rI_len : (rI k l).length = l.length := by simp [rI]
@[simp] theorem rF_len {l : List Bool} : (rF l).length = l.length := by simp [rF]
theorem rI_take : (rI k l).take n = rI k (l.take n) := by simp [rI, List.map_take]
theorem rI_drop : (rI k l).drop n = rI k (l.drop n) := by simp [rI, List.map_drop]
theorem rI_app : rI k l ++ rI k m = rI k (l ++ m) := by simp [rI]
theorem rI_one : [[.int k x]] = rI k [x] := rfl
theorem rI_rep : List.replicate n [.int k x] = rI k (List.replicate n x) := by simp [rI]
theorem rI_get (h : i < l.length) : (rI k l)[i]? = some [.int k (l.getD i 0)] := by simp [rI, h, List.getD_eq_getElem?_getD]
theorem rI_set : (rI k l).set i [.int k x] = rI k (l.set i x) := by simp [rI, List.map_set]
theorem rI_mod : (rI k l).modify i (fun r => putAt r 0 [.int k x]) = rI k (l.set i x) := by
  unfold rI
  induction l generalizing i with
  | nil => cases i <;> rfl
  | cons y l ih => cases i with
    | zero => rfl
    | succ i => simpa using ih
theorem rF_take {l : List Bool} : (rF l).take n = rF (l.take n) := by simp [rF, List.map_take]
theorem rF_drop {l : List Bool} : (rF l).drop n = rF (l.drop n) := by simp [rF, List.map_drop]
theorem rF_app {l m : List Bool} : rF l ++ rF m = rF (l ++ m) := by simp [rF]
theorem rF_rep {b : Bool} : List.replicate n [.bool b] = rF (List.replicate n b) := by simp [rF]
theorem rF_get {l : List Bool} (h : i < l.length) : (rF l)[i]? = some [.bool (l.getD i false)] := by simp [rF, h, List.getD_eq_getElem?_getD]
theorem rF_mod {l : List Bool} {b : Bool} : (rF l).modify i (fun r => putAt r 0 [.bool b]) = rF (l.set i b) := by
  unfold rF
  induction l generalizing i with
  | nil => cases i <;> rfl
  | cons y l ih => cases i with
    | zero => rfl
    | succ i => simpa using ih
theorem V.le.ls {sz n m : Nat} {r r' : List (List D)} (h1 : n = m) (h2 : r.take n = r') : V.le (vL sz n r) (vL sz m r') := .e (.c (.t (.cut h1 h2)))
theorem V.le.nil {sz : Nat} : V.le (vD .nil) (vL sz 0 []) := .e (.c (.t (.nil sz)))
end
end Go.Proofs.YthddlkhfkncgpaaGreat
set_option linter.unusedVariables false
set_option linter.unusedSimpArgs false
namespace Go.Proofs.YthddlkhfkncgpaaGreat
open Go.RowKit

section
variable {P : Program} {N : Nat} {ρ : Env} {hl : List Ob}
theorem trX_nil {y : Operand} (h : trX y = some (.k (.c (.t .nil)))) : y = .const (.slice none 0 0) := by
  cases y with
  | tmp t => simp [trX] at h
  | func f => simp [trX] at h
  | «global» g => simp [trX] at h
  | const v =>
    cases v <;> simp [trX, toE, toC, toD] at h
    all_goals (try (split at h <;> simp_all))
    all_goals (try (cases h))
/-- What the program has where these stand. -/
def Tells (P : Program) (o : Oper) : AOp → Prop
  | .next ax => ∃ x, o.op = .next x false ∧ trX x = some ax
  | .entry ax => ∃ x, o.op = .entry x ∧ trX x = some ax
  | .lookup ok ag z ax ak => ∃ t x k, o.op = .lookup t x k ok ∧ mapB P t = some (ag, z) ∧ trX x = some ax ∧ trX k = some ak
  | .lookupC ag z ax ak => ∃ t x k, o.op = .lookup t x k false ∧ mapC P t = some (ag, z) ∧ trX x = some ax ∧ trX k = some ak
  | .mapEntry ag z ax ak => ∃ t x k, o.op = .mapEntry t x k ∧ mapC P t = some (ag, z) ∧ trX x = some ax ∧ trX k = some ak
  | .eqNil neg ax => ∃ t e x u, o.op = .binOp (if neg then .neq else .eql) t x (.const (.slice none 0 0)) u ∧ P.underlying t = some (.slice e) ∧ trX x = some ax
  | _ => True
theorem trOp_tells {o : Oper} {ao : AOp} (h : trOp P o = some ao) : Tells P o ao := by
  cases hop : o.op with
  | next x b =>
    cases b with
    | true => simp only [trOp, hop] at h; cases h
    | false =>
      simp only [trOp, hop] at h
      split at h
      · rename_i ax hx; cases h; exact ⟨x, hop, hx⟩
      · cases h
  | entry x => simp only [trOp, hop] at h; obtain ⟨ax, hx, rfl⟩ := Option.map_eq_some_iff.1 h; exact ⟨x, hop, hx⟩
  | lookup t x k ok =>
    simp only [trOp, hop] at h
    split at h
    · rename_i ag z ax ak hm h1 h2; cases h; exact ⟨t, x, k, hop, hm, h1, h2⟩
    · rename_i ax ak h0 h1 h2
      split at h
      · rename_i ag z hm; cases h; exact ⟨t, x, k, hop, hm, h1, h2⟩
      · cases h
    · cases h
  | mapEntry t x k =>
    simp only [trOp, hop] at h
    split at h
    · rename_i ag z ax ak hm h1 h2; cases h; exact ⟨t, x, k, hop, hm, h1, h2⟩
    · cases h
  | binOp op t x y u =>
    simp only [trOp, hop] at h
    split at h
    · rename_i ax ay h1 h2
      split at h
      case h_7 hu =>
        split at h
        · cases h; rw [trX_nil h2] at hop; exact ⟨t, _, x, u, hop, hu, h1⟩
        · cases h; rw [trX_nil h2] at hop; exact ⟨t, _, x, u, hop, hu, h1⟩
        · cases h
      all_goals (repeat' (split at h))
      all_goals first | (cases h; done) | (cases h; trivial)
    · cases h
  | _ =>
    simp only [trOp, hop] at h
    try (repeat' (split at h))
    all_goals first | (cases h; done) | (cases h; trivial) | contradiction | (obtain ⟨x, _, rfl⟩ := Option.map_eq_some_iff.1 h; trivial)
theorem OpS.lookup {op : AOp} (r : Option (List D)) {p : Prop} {s : Res} (ha : aopm op ρ hl r = some (p, s)) (hp : p) : OpS P N op ρ hl s := by
  have hlt : ∀ id, (hx hl id).live = true → id < hl.length := fun id h => by
    rcases Nat.lt_or_ge id hl.length with h' | h'
    · exact h'
    · simp [hx, List.getD_eq_getElem?_getD, List.getElem?_eq_none h'] at h; cases h
  have hids : ∀ i ∈ s.ids, i < hl.length := by
    unfold aopm at ha
    repeat' (split at ha)
    all_goals first | (cases ha; done) | (cases ha; intro i hi; simp [Res.ids] at hi; done) | skip
    rename_i hid _
    cases ha
    intro i hi
    simp [Res.ids] at hi
    subst hi
    exact hlt _ (by rw [hid]; rfl)
  refine ⟨hids, fun o ho => ?_⟩
  cases op with
  | lookup ok ag z ax ak => obtain ⟨t, x, k, c1, c2, c3, c4⟩ := trOp_tells ho; exact s_lookup c1 c3 c4 (mem_xts (by simp [AOp.xs])) (mem_xts (by simp [AOp.xs])) c2 ha hp
  | lookupC ag z ax ak => obtain ⟨t, x, k, c1, c2, c3, c4⟩ := trOp_tells ho; exact s_lookupC c1 c3 c4 (mem_xts (by simp [AOp.xs])) (mem_xts (by simp [AOp.xs])) c2 ha hp
  | mapEntry ag z ax ak => obtain ⟨t, x, k, c1, c2, c3, c4⟩ := trOp_tells ho; exact s_mapEntryN c1 c3 c4 (mem_xts (by simp [AOp.xs])) (mem_xts (by simp [AOp.xs])) c2 ha hp
  | _ => cases ha
theorem OpS.entry {op : AOp} (n : Int) (ds : List D) {p : Prop} {s : Res} (ha : aope op ρ hl n ds = some (p, s)) (hp : p) : OpS P N op ρ hl s := by
  have hs : s.ids = [] := by
    unfold aope at ha
    repeat' (split at ha)
    all_goals (cases ha; try rfl)
  refine ⟨fun i hi => (by rw [hs] at hi; cases hi), fun o ho => ?_⟩
  cases op with
  | entry ax => obtain ⟨x, c1, c2⟩ := trOp_tells ho; exact s_entry c1 c2 (mem_xts (by simp [AOp.xs])) ha hp
  | _ => cases ha
end
end Go.Proofs.YthddlkhfkncgpaaGreat
set_option linter.unusedVariables false
set_option linter.unusedSimpArgs false
namespace Go.Proofs.YthddlkhfkncgpaaGreat
open Go.RowKit

inductive Ans where
  | b (t : Nat) (b : Bool)
  | lend (τ : List Nat) (r : V)
  | call (σ τ : List Nat) (r : V) (hs : List Ob)
  | at (r : List D)
  | tx (r : List Int)
  | mp (r : Option (List D))
  | en (n : Int) (ds : List D)
/-- Operations that ask for nothing. -/
def triv : AOp → Bool
  | .mv _ => true
  | .pick _ _ _ => true
  | .box _ => true
  | .alloc _ => true
  | .binB _ _ _ => true
  | .un _ _ => true
  | .same _ => true
  | .extract _ _ => true
  | .len _ _ => true
  | .fieldAddr _ _ => true
  | .nilCheck _ => true
  | .bin .eql _ _ => true
  | .bin .neq _ _ => true
  | .bin .lss _ _ => true
  | .bin .leq _ _ => true
  | .bin .gtr _ _ => true
  | .bin .geq _ _ => true
  | _ => false
/-- Cells that are counted: nothing is to be asked. -/
def autoB (op : AOp) (ρ : Env) (hl : List Ob) : Bool := match op with
  | .store n a x => match ev ρ a, ev ρ x with
    | some (.e (.c (.ptr id off))), some (.e e) => match hx hl id with
      | .box cs => Nat.beq e.cells.length n && Nat.ble (off + n) cs.length
      | _ => false
    | _, _ => false
  | .load n x => match ev ρ x with
    | some (.e (.c (.ptr id off))) => match hx hl id with
      | .box cs => match n with
        | none => true
        | some n => Nat.ble (off + n) cs.length
      | _ => false
    | some (.e (.c (.im _))) => match n with
      | none => true
      | some _ => false
    | _ => false
  | .build zero parts => match evP ρ parts with
    | some ps => ps.all fun r => Nat.beq r.2.2.cells.length r.2.1 && Nat.ble (r.1 + r.2.1) zero.length
    | none => false
  | _ => false
theorem fillC_ok : ∀ (ps : List (Nat × Nat × E)) (zero : List C) {p : Prop} {cs : List C}, fillC zero ps = some (p, cs) → (ps.all fun r => Nat.beq r.2.2.cells.length r.2.1 && Nat.ble (r.1 + r.2.1) zero.length) = true → p
  | [], zero, p, cs, h, _ => by cases h; trivial
  | (off, n, e) :: r, zero, p, cs, h, ha => by
    unfold fillC at h
    simp only [List.all_cons, Bool.and_eq_true] at ha
    split at h
    · rename_i p' cs' hr
      cases h
      exact ⟨⟨Nat.eq_of_beq_eq_true ha.1.1, Nat.le_of_ble_eq_true ha.1.2⟩, fillC_ok r _ hr (by rw [putAt_length]; exact ha.2)⟩
    · cases h
theorem auto_ok {op : AOp} {ρ : Env} {hl : List Ob} {p : Prop} {s : Res} (h : aopx op ρ hl = some (p, s)) (ht : autoB op ρ hl = true) : p := by
  cases op with
  | store n a x =>
    simp only [autoB] at ht
    simp only [aopx, aop] at h
    split at ht
    · rename_i id off e e1 e2
      rw [e1, e2] at h
      simp only at h
      split at ht
      · rename_i cs hid
        rw [hid] at h
        simp only [Bool.and_eq_true] at ht
        cases h
        exact ⟨Nat.eq_of_beq_eq_true ht.1, Nat.le_of_ble_eq_true ht.2⟩
      · cases ht
    · cases ht
  | load n x =>
    simp only [autoB] at ht
    simp only [aopx, aop] at h
    split at ht
    · rename_i id off e1
      rw [e1] at h
      simp only at h
      split at ht
      · rename_i cs hid
        rw [hid] at h
        simp only at h
        cases n with
        | none =>
          simp only [sub1] at h
          cases hc : cs[off]? with
          | none => rw [hc] at h; cases h
          | some c => rw [hc] at h; cases h; trivial
        | some n =>
          simp only [sub1] at h
          cases hb : (Nat.beq off 0 && Nat.beq n cs.length) with
          | true => rw [hb] at h; cases h; trivial
          | false => rw [hb] at h; cases h; exact Nat.le_of_ble_eq_true ht
      · cases ht
    · rename_i ds e1
      rw [e1] at h
      simp only at h
      cases n with
      | none =>
        simp only at h
        cases ds with
        | nil => cases h
        | cons d ds => cases h; trivial
      | some n => cases ht
    · cases ht
  | build zero parts =>
    simp only [autoB] at ht
    simp only [aopx, aop] at h
    split at ht
    · rename_i ps e1
      rw [e1] at h
      simp only at h
      split at h
      · rename_i p' cs hf
        cases h
        exact fillC_ok ps zero hf ht
      · cases h
    · cases ht
  | _ => cases ht
/-- What an operation asks for. -/
def ask1 (op : AOp) (ρ : Env) (hl : List Ob) (p : Prop) (k : Prop → Prop) : Prop → Prop := match triv op with
  | true => k
  | false => match autoB op ρ hl with
    | true => k
    | false => fun q => k (p ∧ q)
/-- The operand's temporary, if it is one, holds v. -/
def setX {β : Type} (x : AX) (v : V) (ρ : Env) (k : Env → β) : β := match x with
  | .tmp t => setE t v ρ k
  | .k _ => k ρ
theorem setE_id {β : Type} {t : Nat} {v : V} {ρ : Env} {k : Env → β} (h : get ρ t = some v) : setE t v ρ k = k ρ := by
  rw [setE_k]
  congr 1
  induction ρ with
  | nil => rfl
  | cons x r ih =>
    obtain ⟨q, x⟩ := x
    simp only [get] at h
    unfold setE
    cases hq : Nat.beq q t with
    | true => rw [hq] at h; simp only [cond_true] at h ⊢; cases h; rfl
    | false =>
      rw [hq] at h
      simp only [cond_false] at h ⊢
      rw [setE_k, ih h]
      rfl
theorem setX_id {β : Type} {x : AX} {v : V} {ρ : Env} {k : Env → β} (h : ev ρ x = some v) : setX x v ρ k = k ρ := by
  cases x with
  | tmp t => exact setE_id h
  | k e => rfl
theorem setX_k {β : Type} (x : AX) (v : V) (ρ : Env) (k : Env → β) : setX x v ρ k = k (setX x v ρ id) := by
  cases x with
  | tmp t => exact setE_k t v ρ k
  | k e => rfl
def askK {β : Type} (op : AOp) (ρ : Env) (hl : List Ob) (p : Prop) (k : Prop → Prop) (F : (Prop → Prop) → β) : β := match triv op with
  | true => F k
  | false => match autoB op ρ hl with
    | true => F k
    | false => F fun q => k (p ∧ q)
theorem askK_eq {β : Type} (op : AOp) (ρ : Env) (hl : List Ob) (p : Prop) (k : Prop → Prop) (F : (Prop → Prop) → β) : askK op ρ hl p k F = F (ask1 op ρ hl p k) := by
  unfold askK ask1
  cases triv op
  · cases autoB op ρ hl <;> rfl
  · rfl
structure Sa where
  ρ : Env
  hl : List Ob
  fs : List Ft
  ans : List Ans
  k : Prop → Prop
def putA {β : Type} (d : Option Nat) (s : Res) (ρ : Env) (hl : List Ob) (fs : List Ft) (K : Env → List Ob → List Ft → β) : β :=
  fPt d s.v ρ fun ρ' => fAp s hl fun hl' => fFt s hl.length fun f => K ρ' hl' (fs ++ [f])
theorem putA_eq {β : Type} (d : Option Nat) (s : Res) (ρ : Env) (hl : List Ob) (fs : List Ft) (K : Env → List Ob → List Ft → β) : putA d s ρ hl fs K = K (pt d s.v ρ) (appL s hl) (fs ++ [s.ft hl.length]) := by
  simp only [putA, fPt_eq, fAp_eq, fFt_eq]
/-- What is not told by the code, answered. -/
def aopo (op : AOp) (ρ : Env) (hl : List Ob) : Ans → PR
  | .at r => aopi op ρ hl r
  | .mp r => aopm op ρ hl r
  | .en n ds => aope op ρ hl n ds
  | _ => none
theorem OpS.opo {P : Program} {N : Nat} {ρ : Env} {hl : List Ob} {op : AOp} {x : Ans} {p : Prop} {s : Res} (ha : aopo op ρ hl x = some (p, s)) (hp : p) : OpS P N op ρ hl s := by
  cases x with
  | «at» r => exact OpS.opi r ha hp
  | mp r => exact OpS.lookup r ha hp
  | en n ds => exact OpS.entry n ds ha hp
  | _ => cases ha
/-- One operation that is no call. -/
def stepD {β : Type} (d : Option Nat) (op : AOp) (ρ : Env) (hl : List Ob) (fs : List Ft) (ans : List Ans) (k : Prop → Prop) (K : Env → List Ob → List Ft → List Ans → (Prop → Prop) → Option β) : Option β :=
  match aopx op ρ hl with
  | some (p, s) => match idsB hl s with
    | true => askK op ρ hl p k fun k => putA d s ρ hl fs fun ρ hl fs => K ρ hl fs ans k
    | false => none
  | none => match ans with
    | x :: ans => match aopo op ρ hl x with
      | some (p, s) => putA d s ρ hl fs fun ρ hl fs => K ρ hl fs ans fun q => k (p ∧ q)
      | none => none
    | [] => none
/-- One operation. -/
def stepA {β : Type} (P : Program) (d : Option Nat) (op : AOp) (ρ : Env) (hl : List Ob) (fs : List Ft) (ans : List Ans) (k : Prop → Prop) (K : Env → List Ob → List Ft → List Ans → (Prop → Prop) → Option β) : Option β :=
  match op with
  | .call f axs => match evs ρ axs with
    | some avs => match ans with
      | .lend τ r :: ans => match listM (V.bk [] τ hl) avs with
        | some vs => match r.plain with
          | true => vwVs [] τ hl avs True fun pv => putA d { v := r, rd := τ } ρ hl fs fun ρ hl fs => K ρ hl fs ans fun q => k (pv ∧ FnOk P f vs [] r [] ∧ q)
          | false => none
        | none => none
      | .call σ τ r hs' :: ans => match listM (V.bk σ τ hl) avs, listM (Ob.bk σ hl) (σ.map (hx hl)) with
        | some vs, some hs => match (decide (σ ++ τ).Nodup && (σ ++ τ).all (fun i => decide (i < hl.length))) && (hs'.all Ob.ok && r.ok) with
          | true => vwVs σ τ hl avs True fun pv => putA d (callRes σ τ hl.length r hs') ρ hl fs fun ρ hl fs => K ρ hl fs ans fun q => k (pv ∧ FnOk P f vs hs r hs' ∧ q)
          | false => none
        | _, _ => none
      | _ => none
    | none => none
  | .callv x axs => match evs ρ axs, ev ρ x with
    | some avs, some (.e (.c (.fn f cs))) => match ans with
      | .call σ τ r hs' :: ans => match listM (V.bk σ τ hl) (avs ++ cs.map vC), listM (Ob.bk σ hl) (σ.map (hx hl)) with
        | some vs, some hs => match (decide (σ ++ τ).Nodup && (σ ++ τ).all (fun i => decide (i < hl.length))) && (hs'.all Ob.ok && r.ok) with
          | true => vwVs σ τ hl (avs ++ cs.map vC) True fun pv => putA d (callRes σ τ hl.length r hs') ρ hl fs fun ρ hl fs => K ρ hl fs ans fun q => k (pv ∧ FnOk P f vs hs r hs' ∧ q)
          | false => none
        | _, _ => none
      | _ => none
    | some avs, some (.e (.c (.bm f id off))) => match ans with
      | .call σ τ r hs' :: ans => match listM (V.bk σ τ hl) (vC (.ptr id off) :: avs), listM (Ob.bk σ hl) (σ.map (hx hl)) with
        | some vs, some hs => match (decide (σ ++ τ).Nodup && (σ ++ τ).all (fun i => decide (i < hl.length))) && (hs'.all Ob.ok && r.ok) with
          | true => vwVs σ τ hl (vC (.ptr id off) :: avs) True fun pv => putA d (callRes σ τ hl.length r hs') ρ hl fs fun ρ hl fs => K ρ hl fs ans fun q => k (pv ∧ FnOk P f vs hs r hs' ∧ q)
          | false => none
        | _, _ => none
      | _ => none
    | _, _ => none
  | .bstr ax => match ans with
    | .tx r :: ans => match aopb (.bstr ax) ρ hl r with
      | some (p, s) => putA d s ρ hl fs fun ρ hl fs => K ρ hl fs ans fun q => k (p ∧ q)
      | none => none
    | _ => none
  | op => stepD d op ρ hl fs ans k K
/-- The answer to the case of a temporary. -/
def popB (t : Nat) : List Ans → Option (Bool × List Ans)
  | .b u c :: r => match Nat.beq u t with
    | true => some (c, r)
    | false => none
  | _ => none
def popX : AX → List Ans → Option (Bool × List Ans)
  | .tmp t, l => popB t l
  | .k _, _ => none
def runA (P : Program) : List AO → Env → List Ob → List Ft → List Ans → (Prop → Prop) → Option Sa
  | [], ρ, hl, fs, ans, k => some ⟨ρ, hl, fs, ans, k⟩
  | o :: os, ρ, hl, fs, ans, k => match o.grd with
    | none => stepA P o.dst o.op ρ hl fs ans k fun ρ hl fs ans k => runA P os ρ hl fs ans k
    | some (t, want) => match get ρ t with
      | some .u => putA o.dst noRes ρ hl fs fun ρ hl fs => runA P os ρ hl fs ans k
      | some (.e (.c (.t (.bool b)))) => match popB t ans with
        | some (c, ans) => setE t (vB c) ρ fun ρ => match c == want with
          | true => stepA P o.dst o.op ρ hl fs ans (fun q => k (b = c ∧ q)) fun ρ hl fs ans k => runA P os ρ hl fs ans k
          | false => putA o.dst noRes ρ hl fs fun ρ hl fs => runA P os ρ hl fs ans fun q => k (b = c ∧ q)
        | none => match b == want with
          | true => stepA P o.dst o.op ρ hl fs ans k fun ρ hl fs ans k => runA P os ρ hl fs ans k
          | false => putA o.dst noRes ρ hl fs fun ρ hl fs => runA P os ρ hl fs ans k
      | _ => none
structure Sc where
  ex : Exit
  ρ : Env
  hl : List Ob
  ans : List Ans
  k : Prop → Prop
def runC (P : Program) : AC → Env → List Ob → List Ans → (Prop → Prop) → Option Sc
  | .skip, ρ, hl, ans, k => some ⟨.normal, ρ, hl, ans, k⟩
  | .region l up, ρ, hl, ans, k => match runA P l ρ hl [] ans k with
    | some ⟨ρ, hl, fs, ans, k⟩ => match ordU up fs with
      | true => some ⟨.normal, ρ, hl, ans, k⟩
      | false => none
    | none => none
  | .seq a b, ρ, hl, ans, k => match runC P a ρ hl ans k with
    | some ⟨.normal, ρ, hl, ans, k⟩ => runC P b ρ hl ans k
    | some s => some s
    | none => none
  | .cond c a b, ρ, hl, ans, k => match ev ρ c with
    | some (.e (.c (.t (.bool v)))) => match popX c ans with
      | some (w, ans) => setX c (vB w) ρ fun ρ => match w with
        | true => runC P a ρ hl ans fun q => k (v = true ∧ q)
        | false => runC P b ρ hl ans fun q => k (v = false ∧ q)
      | none => match v with
        | true => runC P a ρ hl ans k
        | false => runC P b ρ hl ans k
    | _ => none
  | .block i a, ρ, hl, ans, k => match runC P a ρ hl ans k with
    | some ⟨.exit j, ρ, hl, ans, k⟩ => match Nat.beq j i with
      | true => some ⟨.normal, ρ, hl, ans, k⟩
      | false => some ⟨.exit j, ρ, hl, ans, k⟩
    | some s => some s
    | none => none
  | .loop _, _, _, _, _ => none
  | .scope _, _, _, _, _ => none
  | .bad, _, _, _, _ => none
  | .exit i, ρ, hl, ans, k => some ⟨.exit i, ρ, hl, ans, k⟩
  | .ret, ρ, hl, ans, k => some ⟨.ret, ρ, hl, ans, k⟩

/-- What is asked grows. -/
structure Grow (k k' : Prop → Prop) : Prop where
  one : ∀ q, k' q → q
  all : ∀ q, k' q → ∃ q', k q'
theorem Grow.refl {k : Prop → Prop} (h : ∀ q, k q → q) : Grow k k := ⟨h, fun q hq => ⟨q, hq⟩⟩
theorem Grow.and {k k' : Prop → Prop} {p : Prop} (h : Grow (fun q => k (p ∧ q)) k') : Grow k k' := ⟨h.one, fun q hq => let ⟨q', h'⟩ := h.all q hq; ⟨_, h'⟩⟩
theorem Grow.get {k k' : Prop → Prop} {p : Prop} (hk : ∀ q, k q → q) (h : Grow (fun q => k (p ∧ q)) k') {q : Prop} (hq : k' q) : p := by
  obtain ⟨q', h'⟩ := h.all q hq
  exact (hk _ h').1
theorem Grow.trans {a b c : Prop → Prop} (h : Grow a b) (h' : Grow b c) : Grow a c := ⟨h'.one, fun q hq => let ⟨_, h1⟩ := h'.all q hq; h.all _ h1⟩
theorem condSome {b : Bool} {x v : V} {p : Prop} (h : (bif b then some (True, x) else none) = some (p, v)) : p := by
  cases b <;> cases h; trivial
theorem triv_ok {op : AOp} {ρ : Env} {hl : List Ob} {p : Prop} {s : Res} (h : aopx op ρ hl = some (p, s)) (ht : triv op = true) : p := by
  cases op with
  | bin o x y =>
    simp only [aopx] at h
    split at h
    · split at h
      · rename_i p' v he
        cases h
        cases o <;> first | (cases ht; done) | skip
        all_goals
          unfold exact at he
          split at he
          · simp only [bin] at he
            cases he
            trivial
          · unfold bin at he
            split at he
            · simp only at he
              exact condSome he
            · simp only at he
              first | (cases he; done) | (cases he; trivial)
            · cases he
      · cases h
    · cases h
  | mv x => simp only [aopx, aop] at h; split at h <;> cases h; trivial
  | pick c x y => simp only [aopx, aop] at h; split at h <;> cases h <;> trivial
  | box x => simp only [aopx, aop] at h; split at h <;> cases h; trivial
  | alloc x => simp only [aopx, aop] at h; cases h; trivial
  | binB n x y => simp only [aopx, aop] at h; split at h <;> cases h; trivial
  | un o x => simp only [aopx, aop] at h; split at h <;> cases h <;> trivial
  | same x => simp only [aopx, aop] at h; split at h <;> cases h; trivial
  | extract x i => simp only [aopx, aop] at h; split at h <;> (try cases h); split at h <;> cases h; trivial
  | len st x =>
    simp only [aopx, aop] at h
    cases st with
    | true => simp only [cond_true] at h; split at h <;> cases h; trivial
    | false =>
      simp only [cond_false] at h
      split at h
      · rename_i v _
        cases hs : isStr v with
        | true => rw [hs] at h; cases h
        | false => rw [hs] at h; simp only [cond_false] at h; split at h <;> cases h; trivial
      · cases h
  | fieldAddr o x => simp only [aopx, aop] at h; split at h <;> cases h <;> trivial
  | nilCheck x => simp only [aopx, aop] at h; split at h <;> cases h <;> trivial
  | _ => cases ht
theorem ask1_ok {op : AOp} {ρ : Env} {hl : List Ob} {p : Prop} {s : Res} {k k' : Prop → Prop} (h : aopx op ρ hl = some (p, s)) (hk : ∀ q, k q → q) (hg : Grow (ask1 op ρ hl p k) k') : Grow k k' ∧ ∀ q, k' q → p := by
  unfold ask1 at hg
  cases ht : triv op with
  | true => rw [ht] at hg; exact ⟨hg, fun q _ => triv_ok h ht⟩
  | false =>
    rw [ht] at hg
    cases hu : autoB op ρ hl with
    | true => rw [hu] at hg; exact ⟨hg, fun q _ => auto_ok h hu⟩
    | false => rw [hu] at hg; exact ⟨hg.and, fun q hq => hg.get hk hq⟩
theorem ask1_id {op : AOp} {ρ : Env} {hl : List Ob} {p : Prop} {k : Prop → Prop} (hk : ∀ q, k q → q) : ∀ q, ask1 op ρ hl p k q → q := by
  unfold ask1
  cases triv op with
  | true => exact hk
  | false =>
    cases autoB op ρ hl with
    | true => exact hk
    | false => exact fun q hq => (hk _ hq).2
section
variable {P : Program} {N : Nat} {β : Type}
theorem stepD_ok {op : AOp} {d : Option Nat} {ρ : Env} {hl : List Ob} {fs : List Ft} {ans : List Ans} {k : Prop → Prop} {K : Env → List Ob → List Ft → List Ans → (Prop → Prop) → Option β} {r : β} (hk : ∀ q, k q → q) (h : stepD d op ρ hl fs ans k K = some r) :
    ∃ s ans' k1, (∀ q, k1 q → q) ∧ K (pt d s.v ρ) (appL s hl) (fs ++ [s.ft hl.length]) ans' k1 = some r ∧ ∀ k', Grow k1 k' → Grow k k' ∧ ∀ q, k' q → OpS P N op ρ hl s := by
  unfold stepD at h
  split at h
  · rename_i p s ha
    split at h
    · rename_i hi
      rw [askK_eq, putA_eq] at h
      refine ⟨s, ans, _, ask1_id hk, h, fun k' hg => ?_⟩
      obtain ⟨g1, g2⟩ := ask1_ok ha hk hg
      refine ⟨g1, fun q hq => ?_⟩
      obtain ⟨p', q1, q2⟩ := aopx_ok ha (g2 q hq)
      exact ⟨idsB_ok hi, fun o' ho => aop_ok ho q1 q2⟩
    · cases h
  · cases ans with
    | nil => cases h
    | cons x ans' =>
      simp only at h
      split at h
      · rename_i p s ha
        rw [putA_eq] at h
        exact ⟨s, ans', _, fun q hq => (hk _ hq).2, h, fun k' hg => ⟨hg.and, fun q hq => OpS.opo ha (hg.get hk hq)⟩⟩
      · cases h
/-- One operation's step, and what is behind it. -/
theorem stepA_ok {op : AOp} {d : Option Nat} {ρ : Env} {hl : List Ob} {fs : List Ft} {ans : List Ans} {k : Prop → Prop} {K : Env → List Ob → List Ft → List Ans → (Prop → Prop) → Option β} {r : β} (hk : ∀ q, k q → q) (h : stepA P d op ρ hl fs ans k K = some r) :
    ∃ s ans' k1, (∀ q, k1 q → q) ∧ K (pt d s.v ρ) (appL s hl) (fs ++ [s.ft hl.length]) ans' k1 = some r ∧ ∀ k', Grow k1 k' → Grow k k' ∧ ∀ q, k' q → OpS P N op ρ hl s := by
  cases op with
  | call f axs =>
    simp only [stepA] at h
    split at h
    · rename_i avs hev
      split at h
      · rename_i τ r0 ans'
        split at h
        · rename_i vs hbv
          split at h
          · rename_i hp
            rw [vwVs_k, putA_eq] at h
            refine ⟨_, ans', _, fun q hq => (hk _ hq).2.2, h, fun k' hg => ⟨⟨hg.one, fun q hq => let ⟨q', h'⟩ := hg.all q hq; ⟨_, h'⟩⟩, fun q hq => ?_⟩⟩
            obtain ⟨q', h'⟩ := hg.all q hq
            obtain ⟨h1, h2, _⟩ := hk _ h'
            exact OpS.lend τ hev hbv (by rw [vwVs_k]) h1 hp h2
          · cases h
        · cases h
      · rename_i σ τ r0 hs' ans'
        split at h
        · rename_i vs hs hbv hbo
          split at h
          · rename_i hc
            rw [vwVs_k, putA_eq] at h
            refine ⟨_, ans', _, fun q hq => (hk _ hq).2.2, h, fun k' hg => ⟨⟨hg.one, fun q hq => let ⟨q', h'⟩ := hg.all q hq; ⟨_, h'⟩⟩, fun q hq => ?_⟩⟩
            obtain ⟨q', h'⟩ := hg.all q hq
            obtain ⟨h1, h2, _⟩ := hk _ h'
            exact OpS.call σ τ hev hbv (by rw [vwVs_k]) h1 hbo hc h2
          · cases h
        · cases h
      · cases h
    · cases h
  | callv x axs =>
    simp only [stepA] at h
    split at h
    · rename_i avs f cs hev hf
      split at h
      · rename_i σ τ r0 hs' ans'
        split at h
        · rename_i vs hs hbv hbo
          split at h
          · rename_i hc
            rw [vwVs_k, putA_eq] at h
            refine ⟨_, ans', _, fun q hq => (hk _ hq).2.2, h, fun k' hg => ⟨⟨hg.one, fun q hq => let ⟨q', h'⟩ := hg.all q hq; ⟨_, h'⟩⟩, fun q hq => ?_⟩⟩
            obtain ⟨q', h'⟩ := hg.all q hq
            obtain ⟨h1, h2, _⟩ := hk _ h'
            exact OpS.callv σ τ hf hev hbv (by rw [vwVs_k]) h1 hbo hc h2
          · cases h
        · cases h
      · cases h
    · rename_i avs f id off hev hf
      split at h
      · rename_i σ τ r0 hs' ans'
        split at h
        · rename_i vs hs hbv hbo
          split at h
          · rename_i hc
            rw [vwVs_k, putA_eq] at h
            refine ⟨_, ans', _, fun q hq => (hk _ hq).2.2, h, fun k' hg => ⟨⟨hg.one, fun q hq => let ⟨q', h'⟩ := hg.all q hq; ⟨_, h'⟩⟩, fun q hq => ?_⟩⟩
            obtain ⟨q', h'⟩ := hg.all q hq
            obtain ⟨h1, h2, _⟩ := hk _ h'
            exact OpS.callm σ τ hf hev hbv (by rw [vwVs_k]) h1 hbo hc h2
          · cases h
        · cases h
      · cases h
    · cases h
  | bstr ax =>
    simp only [stepA] at h
    cases ans with
    | nil => cases h
    | cons x ans' =>
      cases x with
      | tx row =>
        simp only at h
        split at h
        · rename_i p s ha
          rw [putA_eq] at h
          exact ⟨s, ans', _, fun q hq => (hk _ hq).2, h, fun k' hg => ⟨hg.and, fun q hq => OpS.opb row ha (hg.get hk hq)⟩⟩
        · cases h
      | _ => cases h
  | _ => exact stepD_ok hk h
theorem runA_ok : ∀ {os : List AO} {ρ : Env} {hl : List Ob} {fs : List Ft} {ans : List Ans} {k : Prop → Prop} {r : Sa} {K : Env → List Ob → List Ft → Prop}, (∀ q, k q → q) → runA P os ρ hl fs ans k = some r →
    Grow k r.k ∧ ∀ q, r.k q → K r.ρ r.hl r.fs → Rg P N os ρ hl fs K
  | [], ρ, hl, fs, ans, k, r, K, hk, h => by cases h; exact ⟨Grow.refl hk, fun _ _ h => h⟩
  | o :: os, ρ, hl, fs, ans, k, r, K, hk, h => by
    have step : ∀ {ans : List Ans} {k : Prop → Prop}, (∀ q, k q → q) → grdB ρ o.grd = some true → (stepA P o.dst o.op ρ hl fs ans k fun ρ hl fs ans k => runA P os ρ hl fs ans k) = some r → Grow k r.k ∧ ∀ q, r.k q → K r.ρ r.hl r.fs → Rg P N (o :: os) ρ hl fs K := by
      intro ans k hk hg h
      obtain ⟨s, ans', k1, h1, h2, h3⟩ := stepA_ok (N := N) hk h
      obtain ⟨g1, g2⟩ := runA_ok (K := K) h1 h2
      obtain ⟨g3, g4⟩ := h3 _ g1
      exact ⟨g3, fun q hq hK => .inr ⟨hg, s, g4 q hq, g2 q hq hK⟩⟩
    have skip : ∀ {ans : List Ans} {k : Prop → Prop}, (∀ q, k q → q) → grdB ρ o.grd = some false → (putA o.dst noRes ρ hl fs fun ρ hl fs => runA P os ρ hl fs ans k) = some r → Grow k r.k ∧ ∀ q, r.k q → K r.ρ r.hl r.fs → Rg P N (o :: os) ρ hl fs K := by
      intro ans k hk hg h
      rw [putA_eq, appL_no] at h
      obtain ⟨g1, g2⟩ := runA_ok (K := K) hk h
      exact ⟨g1, fun q hq hK => .inl ⟨hg, g2 q hq hK⟩⟩
    unfold runA at h
    split at h
    · rename_i hg
      exact step hk (by rw [hg]; rfl) h
    · rename_i t want hg
      split at h
      · rename_i hv
        exact skip hk (by rw [hg]; simp only [grdB, hv]) h
      · rename_i b hv
        split at h
        · rename_i c ans' _
          by_cases hbc : b = c
          case neg =>
            rw [setE_k] at h
            split at h
            · obtain ⟨s, ans'', k1, h1, h2, h3⟩ := stepA_ok (N := N) (k := fun q => k (b = c ∧ q)) (fun q hq => (hk _ hq).2) h
              obtain ⟨g1, g2⟩ := runA_ok (K := K) h1 h2
              obtain ⟨g3, g4⟩ := h3 _ g1
              exact ⟨g3.and, fun q hq => absurd (g3.get hk hq) hbc⟩
            · rw [putA_eq, appL_no] at h
              obtain ⟨g1, g2⟩ := runA_ok (K := K) (k := fun q => k (b = c ∧ q)) (fun q hq => (hk _ hq).2) h
              exact ⟨g1.and, fun q hq => absurd (g1.get hk hq) hbc⟩
          rw [setE_id (by rw [hv, hbc])] at h
          split at h
          · rename_i hcw
            obtain ⟨g1, g2⟩ : Grow (fun q => k (b = c ∧ q)) r.k ∧ ∀ q, r.k q → K r.ρ r.hl r.fs → Rg P N (o :: os) ρ hl fs K := by
              obtain ⟨s, ans'', k1, h1, h2, h3⟩ := stepA_ok (N := N) (k := fun q => k (b = c ∧ q)) (fun q hq => (hk _ hq).2) h
              obtain ⟨g1, g2⟩ := runA_ok (K := K) h1 h2
              obtain ⟨g3, g4⟩ := h3 _ g1
              refine ⟨g3, fun q hq hK => .inr ⟨?_, s, g4 q hq, g2 q hq hK⟩⟩
              have : b = c := g3.get hk hq
              rw [hg]; simp only [grdB, hv, this, hcw]
            exact ⟨g1.and, g2⟩
          · rename_i hcw
            rw [putA_eq, appL_no] at h
            obtain ⟨g1, g2⟩ := runA_ok (K := K) (k := fun q => k (b = c ∧ q)) (fun q hq => (hk _ hq).2) h
            refine ⟨g1.and, fun q hq hK => .inl ⟨?_, g2 q hq hK⟩⟩
            have : b = c := g1.get hk hq
            rw [hg]; simp only [grdB, hv, this, hcw]
        · split at h
          · rename_i hbw
            exact step hk (by rw [hg]; simp only [grdB, hv, hbw]) h
          · rename_i hbw
            exact skip hk (by rw [hg]; simp only [grdB, hv, hbw]) h
      · cases h
theorem runC_ok : ∀ {c : AC} {n0 : Nat} {ρ : Env} {hl : List Ob} {ans : List Ans} {k : Prop → Prop} {r : Sc} {Q : Exit → Env → List Ob → Prop}, (∀ q, k q → q) → runC P c ρ hl ans k = some r →
    Grow k r.k ∧ ∀ q, r.k q → Q r.ex r.ρ r.hl → Tri P N n0 c ρ hl Q
  | .skip, n0, ρ, hl, ans, k, r, Q, hk, h => by cases h; exact ⟨Grow.refl hk, fun _ _ h => Tri.skip h⟩
  | .exit i, n0, ρ, hl, ans, k, r, Q, hk, h => by cases h; exact ⟨Grow.refl hk, fun _ _ h => Tri.exit h⟩
  | .ret, n0, ρ, hl, ans, k, r, Q, hk, h => by cases h; exact ⟨Grow.refl hk, fun _ _ h => Tri.ret h⟩
  | .loop a, n0, ρ, hl, ans, k, r, Q, hk, h => by cases h
  | .scope a, n0, ρ, hl, ans, k, r, Q, hk, h => by cases h
  | .bad, n0, ρ, hl, ans, k, r, Q, hk, h => by cases h
  | .region l up, n0, ρ, hl, ans, k, r, Q, hk, h => by
    unfold runC at h
    split at h
    · rename_i ρ' hl' fs' ans' k' h1
      split at h
      · rename_i ho
        cases h
        obtain ⟨g1, g2⟩ := runA_ok (N := N) (K := fun ρ' hl' fs => ordU up fs = true ∧ Q .normal ρ' hl') hk h1
        exact ⟨g1, fun q hq hQ => Tri.gs (g2 q hq ⟨ho, hQ⟩)⟩
      · cases h
    · cases h
  | .seq a b, n0, ρ, hl, ans, k, r, Q, hk, h => by
    unfold runC at h
    split at h
    · rename_i ρ' hl' ans' k' h1
      obtain ⟨g1, g2⟩ := runC_ok (n0 := n0) (Q := thenQ (fun ρ' hl' => Tri P N n0 b ρ' hl' Q) Q) hk h1
      obtain ⟨g3, g4⟩ := runC_ok (n0 := n0) (Q := Q) g1.one h
      exact ⟨g1.trans g3, fun q hq hQ => let ⟨q', h'⟩ := g3.all q hq; Tri.seq (g2 q' h' (g4 q hq hQ))⟩
    · rename_i s hs h1
      cases h
      obtain ⟨g1, g2⟩ := runC_ok (n0 := n0) (Q := thenQ (fun ρ' hl' => Tri P N n0 b ρ' hl' Q) Q) hk h1
      refine ⟨g1, fun q hq hQ => Tri.seq (g2 q hq ?_)⟩
      obtain ⟨ex, ρ', hl', ans', k'⟩ := r
      cases ex with
      | normal => exact absurd rfl (hs ρ' hl' ans' k')
      | _ => exact hQ
    · cases h
  | .cond c a b, n0, ρ, hl, ans, k, r, Q, hk, h => by
    unfold runC at h
    split at h
    · rename_i v hv
      split at h
      · rename_i w ans' _
        by_cases hvw : v = w
        case neg =>
          rw [setX_k] at h
          cases w with
          | true =>
            obtain ⟨g1, g2⟩ := runC_ok (n0 := n0) (Q := Q) (k := fun q => k (v = true ∧ q)) (fun q hq => (hk _ hq).2) h
            exact ⟨g1.and, fun q hq => absurd (g1.get hk hq) hvw⟩
          | false =>
            obtain ⟨g1, g2⟩ := runC_ok (n0 := n0) (Q := Q) (k := fun q => k (v = false ∧ q)) (fun q hq => (hk _ hq).2) h
            exact ⟨g1.and, fun q hq => absurd (g1.get hk hq) hvw⟩
        rw [setX_id (by rw [hv, hvw])] at h
        split at h
        · obtain ⟨g1, g2⟩ := runC_ok (n0 := n0) (Q := Q) (k := fun q => k (v = true ∧ q)) (fun q hq => (hk _ hq).2) h
          refine ⟨g1.and, fun q hq hQ => ?_⟩
          have : v = true := g1.get hk hq
          exact Tri.cond hv (fun _ => g2 q hq hQ) (fun e => by rw [this] at e; cases e)
        · obtain ⟨g1, g2⟩ := runC_ok (n0 := n0) (Q := Q) (k := fun q => k (v = false ∧ q)) (fun q hq => (hk _ hq).2) h
          refine ⟨g1.and, fun q hq hQ => ?_⟩
          have : v = false := g1.get hk hq
          exact Tri.cond hv (fun e => by rw [this] at e; cases e) (fun _ => g2 q hq hQ)
      · split at h
        · obtain ⟨g1, g2⟩ := runC_ok (n0 := n0) (Q := Q) hk h
          exact ⟨g1, fun q hq hQ => Tri.cond hv (fun _ => g2 q hq hQ) (fun e => by cases e)⟩
        · obtain ⟨g1, g2⟩ := runC_ok (n0 := n0) (Q := Q) hk h
          exact ⟨g1, fun q hq hQ => Tri.cond hv (fun e => by cases e) (fun _ => g2 q hq hQ)⟩
    · cases h
  | .block i a, n0, ρ, hl, ans, k, r, Q, hk, h => by
    unfold runC at h
    split at h
    · rename_i j ρ' hl' ans' k' h1
      obtain ⟨g1, g2⟩ := runC_ok (n0 := n0) (Q := blockQ i Q) hk h1
      split at h
      · rename_i hj
        cases h
        refine ⟨g1, fun q hq hQ => Tri.block (g2 q hq ?_)⟩
        simp only [blockQ]
        rw [if_pos (Nat.eq_of_beq_eq_true hj)]
        exact hQ
      · rename_i hj
        cases h
        refine ⟨g1, fun q hq hQ => Tri.block (g2 q hq ?_)⟩
        simp only [blockQ]
        rw [if_neg (Nat.ne_of_beq_eq_false hj)]
        exact hQ
    · rename_i s hs h1
      cases h
      obtain ⟨g1, g2⟩ := runC_ok (n0 := n0) (Q := blockQ i Q) hk h1
      refine ⟨g1, fun q hq hQ => Tri.block (g2 q hq ?_)⟩
      obtain ⟨ex, ρ', hl', ans', k'⟩ := r
      cases ex with
      | exit j => exact absurd rfl (hs j ρ' hl' ans' k')
      | _ => exact hQ
    · cases h
/-- A piece of code without loops, at once. -/
theorem Tri.go {c : AC} {n0 : Nat} {ρ ρ' : Env} {hl hl' : List Ob} {Q : Exit → Env → List Ob → Prop} (ans : List Ans) {ex : Exit} {k : Prop → Prop} (h : runC P c ρ hl ans (fun q => q) = some ⟨ex, ρ', hl', [], k⟩) (hp : k True) (hQ : Q ex ρ' hl') : Tri P N n0 c ρ hl Q :=
  (runC_ok (fun _ h => h) h).2 True hp hQ
/-- A function without loops, on one of its roads. -/
theorem FnOk.go {f : FuncId} {np n0 : Nat} {body : AC} {res : List AR} {vs : List V} {ρ ρ' : Env} {hs hs' hl' : List Ob} {r : V} (hf : FnAt P f ⟨np, N, body, res⟩) (ans : List Ans) (σ τ : List Nat) {ex : Exit} {k : Prop → Prop} {p : Prop} {r' : V} {hs'' : List Ob} (hlen : vs.length = np) (hn : fN hs.length some = some n0) (hρ : fEnv 0 vs some = some ρ)
    (h : runC P body ρ hs ans (fun q => q) = some ⟨ex, ρ', hl', [], k⟩) (hex : ex = .ret) (hfin : finR res σ τ n0 ρ' hl' = some (p, r', hs'')) (hh : hs'' = hs') (hp : k True) (hp2 : p) (hr : V.le r' r) : FnOk P f vs hs r hs' :=
  FnOk.start hf hlen hn hρ (Tri.go ans h hp (by subst hex; exact RetQ.of σ τ hfin hp2 hr hh))
/-- .. and of the objects less is told. -/
theorem FnOk.gol {f : FuncId} {np n0 : Nat} {body : AC} {res : List AR} {vs : List V} {ρ ρ' : Env} {hs hs' hl' : List Ob} {r : V} (hf : FnAt P f ⟨np, N, body, res⟩) (ans : List Ans) (σ τ : List Nat) {ex : Exit} {k : Prop → Prop} {p : Prop} {r' : V} {hs'' : List Ob} (hlen : vs.length = np) (hn : fN hs.length some = some n0) (hρ : fEnv 0 vs some = some ρ)
    (h : runC P body ρ hs ans (fun q => q) = some ⟨ex, ρ', hl', [], k⟩) (hex : ex = .ret) (hfin : finR res σ τ n0 ρ' hl' = some (p, r', hs'')) (hp : k True) (hp2 : p) (hr : V.le r' r) (hh : LeOs hs'' hs') : FnOk P f vs hs r hs' :=
  FnOk.start hf hlen hn hρ (Tri.go ans h hp (by subst hex; exact RetQ.le σ τ hfin hp2 hr hh))
end
def keepK {β : Type} (ρ : Env) : List Nat → (Env → Option β) → Option β
  | [], k => k []
  | t :: ts, k => match get ρ t with
    | some v => fV v fun v => keepK ρ ts fun r => k ((t, v) :: r)
    | none => none
theorem keepK_eq {β : Type} (ρ : Env) : ∀ (l : List Nat) (k : Env → Option β), keepK ρ l k = (keepE ρ l).bind k
  | [], k => rfl
  | t :: ts, k => by
    unfold keepK keepE
    cases hg : get ρ t with
    | none => rfl
    | some v =>
      simp only [fV_eq]
      rw [keepK_eq ρ ts]
      cases keepE ρ ts <;> rfl
/-- What the temporaries hold, when more has been done. -/
theorem keep_of {ρ ρ1 ρ2 : Env} {live : List Nat} (h : keepK ρ live some = some ρ1) (e : ρ1 = ρ2) : keepE ρ live = some ρ2 := by
  rw [keepK_eq] at h
  cases hk : keepE ρ live with
  | none => rw [hk] at h; cases h
  | some r => rw [hk] at h; cases h; rw [e]
/-- Once more round. -/
theorem again {J : Nat → Env → List Ob → Prop} {Q : Exit → Env → List Ob → Prop} {n : Nat} {ρ : Env} {hl : List Ob} (m : Nat) (hm : m < n) (h : J m ρ hl) : thenQ (fun ρ hl => ∃ m, m < n ∧ J m ρ hl) Q .normal ρ hl := ⟨m, hm, h⟩
/-- Out of the loop. -/
theorem outQ {K : Env → List Ob → Prop} {Q : Exit → Env → List Ob → Prop} {id : Nat} {ρ : Env} {hl : List Ob} (h : Q .normal ρ hl) : thenQ K (blockQ id Q) (.exit id) ρ hl := by
  simp only [thenQ, blockQ, if_pos]; exact h
theorem V.le.of {a b : V} (h : a = b) : V.le a b := h ▸ .refl a
theorem V.le.vB {a b : Bool} (h : a = true ↔ b = true) : V.le (Go.Proofs.YthddlkhfkncgpaaGreat.vB a) (Go.Proofs.YthddlkhfkncgpaaGreat.vB b) := .of (by rw [Bool.eq_iff_iff.2 h])
end Go.Proofs.YthddlkhfkncgpaaGreat
set_option linter.unusedVariables false
set_option linter.unusedSimpArgs false
namespace Go.Proofs.YthddlkhfkncgpaaGreat
open Go.RowKit

/-- What is given is what was to be given: a cell, a list of cells, values. -/
def leC : C → C → Prop
  | .t (.int k a), .t (.int k' b) => k = k' ∧ a = b
  | .t (.bool a), .t (.bool b) => a = true ↔ b = true
  | .t .nil, .t (.ls _ n r) => n = 0 ∧ r = []
  | .t (.ls sz n r), .t (.ls sz' m r') => sz = sz' ∧ n = m ∧ (r = r' ∨ r.take n = r')
  | c, c' => c = c'
def leL : List C → List C → Prop
  | [], [] => True
  | c :: l, c' :: l' => leC c c' ∧ leL l l'
  | _, _ => False
def leE : E → E → Prop
  | .c a, .c b => leC a b
  | .agg l, .agg l' => leL l l'
  | _, _ => False
def leEs : List E → List E → Prop
  | [], [] => True
  | c :: l, c' :: l' => leE c c' ∧ leEs l l'
  | _, _ => False
def leP : V → V → Prop
  | .e a, .e b => leE a b
  | .tup a, .tup b => leEs a b
  | a, b => a = b
theorem leC_ok {a b : C} (h : leC a b) : C.le a b := by
  unfold leC at h
  split at h
  · obtain ⟨rfl, rfl⟩ := h; exact .refl _
  · rw [Bool.eq_iff_iff.2 h]; exact .refl _
  · obtain ⟨rfl, rfl⟩ := h; exact .t (.nil _)
  · obtain ⟨rfl, rfl, rfl | h⟩ := h
    · exact .refl _
    · exact .t (.cut rfl h)
  · rw [h]; exact .refl _
theorem leL_ok : ∀ {l m : List C}, leL l m → LeCs l m
  | [], [], _ => .nil
  | _ :: _, _ :: _, h => .cons (leC_ok h.1) (leL_ok h.2)
  | [], _ :: _, h => h.elim
  | _ :: _, [], h => h.elim
theorem leE_ok : ∀ {a b : E}, leE a b → E.le a b
  | .c _, .c _, h => .c (leC_ok h)
  | .agg _, .agg _, h => .agg (leL_ok h)
  | .c _, .agg _, h => h.elim
  | .agg _, .c _, h => h.elim
theorem leEs_ok : ∀ {l m : List E}, leEs l m → LeEs l m
  | [], [], _ => .nil
  | _ :: _, _ :: _, h => .cons (leE_ok h.1) (leEs_ok h.2)
  | [], _ :: _, h => h.elim
  | _ :: _, [], h => h.elim
theorem leP_ok : ∀ {a b : V}, leP a b → V.le a b
  | .e _, .e _, h => .e (leE_ok h)
  | .tup _, .tup _, h => .tup (leEs_ok h)
  | .e _, .tup _, h => by cases h
  | .e _, .u, h => by cases h
  | .tup _, .e _, h => by cases h
  | .tup _, .u, h => by cases h
  | .u, .e _, h => by cases h
  | .u, .tup _, h => by cases h
  | .u, .u, _ => .refl _
@[simp] theorem leC_refl (c : C) : leC c c := by unfold leC; split <;> simp_all
@[simp] theorem leL_refl : ∀ (l : List C), leL l l
  | [] => trivial
  | c :: l => ⟨leC_refl c, leL_refl l⟩
@[simp] theorem leE_refl : ∀ (e : E), leE e e
  | .c c => leC_refl c
  | .agg l => leL_refl l
@[simp] theorem leEs_refl : ∀ (l : List E), leEs l l
  | [] => trivial
  | c :: l => ⟨leE_refl c, leEs_refl l⟩
@[simp] theorem leP_refl : ∀ (v : V), leP v v
  | .e e => leE_refl e
  | .tup l => leEs_refl l
  | .u => rfl
@[simp] theorem rI_nil (k : IntKind) : rI k [] = [] := rfl
@[simp] theorem rF_nil : rF [] = [] := rfl
def leVs : List V → List V → Prop
  | [], [] => True
  | c :: l, c' :: l' => leP c c' ∧ leVs l l'
  | _, _ => False
theorem leVs_ok : ∀ {l m : List V}, leVs l m → LeVs l m
  | [], [], _ => .nil
  | _ :: _, _ :: _, h => .cons (leP_ok h.1) (leVs_ok h.2)
  | [], _ :: _, h => h.elim
  | _ :: _, [], h => h.elim
inductive AT (P : Program) where
  | nil
  | a (x : Ans) (r : AT P)
  | br (t : Nat) (x y : AT P)
  | w (k : AT P)
  | f (τ : List Nat) {f : FuncId} {vs : List V} {r : V} (h : FnOk P f vs [] r []) (k : AT P)
  | o (σ τ : List Nat) {f : FuncId} {vs : List V} {hs : List Ob} {r : V} {hs' : List Ob} (h : FnOk P f vs hs r hs') (k : AT P)
def eqOs (a b : List Ob) : Prop := a = b
def andO (p : Prop) : Option Prop → Option Prop
  | some q => some (p ∧ q)
  | none => none
def orO (v : Bool) : Option Prop → Option Prop → Option Prop
  | some p, some q => some ((v = true → p) ∧ (v = false → q))
  | _, _ => none
def popT {P : Program} (t : Nat) : AT P → Option (AT P × AT P)
  | .br u x y => match Nat.beq u t with
    | true => some (x, y)
    | false => none
  | _ => none
def popTX {P : Program} : AX → AT P → Option (AT P × AT P)
  | .tmp t, l => popT t l
  | .k _, _ => none
def popBT {P : Program} (t : Nat) : AT P → Option (Bool × AT P)
  | .a (.b u c) r => match Nat.beq u t with
    | true => some (c, r)
    | false => none
  | _ => none
def popBTX {P : Program} : AX → AT P → Option (Bool × AT P)
  | .tmp t, l => popBT t l
  | .k _, _ => none
def askT (op : AOp) (ρ : Env) (hl : List Ob) (p : Prop) (o : Option Prop) : Option Prop := match triv op with
  | true => o
  | false => match autoB op ρ hl with
    | true => o
    | false => andO p o
def stepTD {P : Program} (d : Option Nat) (op : AOp) (ρ : Env) (hl : List Ob) (fs : List Ft) (ans : AT P) (K : Env → List Ob → List Ft → AT P → Option Prop) : Option Prop :=
  match aopx op ρ hl with
  | some (p, s) => match idsB hl s with
    | true => askT op ρ hl p (putA d s ρ hl fs fun ρ hl fs => K ρ hl fs ans)
    | false => none
  | none => match ans with
    | .a x ans => match aopo op ρ hl x with
      | some (p, s) => andO p (putA d s ρ hl fs fun ρ hl fs => K ρ hl fs ans)
      | none => none
    | _ => none
def stepT (P : Program) (d : Option Nat) (op : AOp) (ρ : Env) (hl : List Ob) (fs : List Ft) (ans : AT P) (K : Env → List Ob → List Ft → AT P → Option Prop) : Option Prop :=
  match op with
  | .call f axs => match evs ρ axs with
    | some avs => match ans with
      | .a (.lend τ r) ans => match listM (V.bk [] τ hl) avs with
        | some vs => match r.plain with
          | true => vwVs [] τ hl avs True fun pv => andO pv (andO (FnOk P f vs [] r []) (putA d { v := r, rd := τ } ρ hl fs fun ρ hl fs => K ρ hl fs ans))
          | false => none
        | none => none
      | .a (.call σ τ r hs') ans => match listM (V.bk σ τ hl) avs, listM (Ob.bk σ hl) (σ.map (hx hl)) with
        | some vs, some hs => match (decide (σ ++ τ).Nodup && (σ ++ τ).all (fun i => decide (i < hl.length))) && (hs'.all Ob.ok && r.ok) with
          | true => vwVs σ τ hl avs True fun pv => andO pv (andO (FnOk P f vs hs r hs') (putA d (callRes σ τ hl.length r hs') ρ hl fs fun ρ hl fs => K ρ hl fs ans))
          | false => none
        | _, _ => none
      | @AT.f _ τ f' vs' r h ans => match Nat.beq f f', listM (V.bk [] τ hl) avs with
        | true, some vs => match r.plain with
          | true => vwVs [] τ hl avs True fun pv => andO pv (andO (leVs vs vs') (putA d { v := r, rd := τ } ρ hl fs fun ρ hl fs => K ρ hl fs ans))
          | false => match r.ok && (decide ([] ++ τ).Nodup && ([] ++ τ).all (fun i => decide (i < hl.length))) with
            | true => vwVs [] τ hl avs True fun pv => andO pv (andO (leVs vs vs') (putA d (callRes [] τ hl.length r []) ρ hl fs fun ρ hl fs => K ρ hl fs ans))
            | false => none
        | _, _ => none
      | @AT.o _ σ τ f' vs' hs0 r hs' h ans => match Nat.beq f f', listM (V.bk σ τ hl) avs, listM (Ob.bk σ hl) (σ.map (hx hl)) with
        | true, some vs, some hs => match (decide (σ ++ τ).Nodup && (σ ++ τ).all (fun i => decide (i < hl.length))) && (hs'.all Ob.ok && r.ok) with
          | true => vwVs σ τ hl avs True fun pv => andO pv (andO (leVs vs vs') (andO (eqOs hs hs0) (putA d (callRes σ τ hl.length r hs') ρ hl fs fun ρ hl fs => K ρ hl fs ans)))
          | false => none
        | _, _, _ => none
      | _ => none
    | none => none
  | .callv x axs => match evs ρ axs, ev ρ x with
    | some avs, some (.e (.c (.fn f cs))) => match ans with
      | .a (.call σ τ r hs') ans => match listM (V.bk σ τ hl) (avs ++ cs.map vC), listM (Ob.bk σ hl) (σ.map (hx hl)) with
        | some vs, some hs => match (decide (σ ++ τ).Nodup && (σ ++ τ).all (fun i => decide (i < hl.length))) && (hs'.all Ob.ok && r.ok) with
          | true => vwVs σ τ hl (avs ++ cs.map vC) True fun pv => andO pv (andO (FnOk P f vs hs r hs') (putA d (callRes σ τ hl.length r hs') ρ hl fs fun ρ hl fs => K ρ hl fs ans))
          | false => none
        | _, _ => none
      | _ => none
    | some avs, some (.e (.c (.bm f id off))) => match ans with
      | .a (.call σ τ r hs') ans => match listM (V.bk σ τ hl) (vC (.ptr id off) :: avs), listM (Ob.bk σ hl) (σ.map (hx hl)) with
        | some vs, some hs => match (decide (σ ++ τ).Nodup && (σ ++ τ).all (fun i => decide (i < hl.length))) && (hs'.all Ob.ok && r.ok) with
          | true => vwVs σ τ hl (vC (.ptr id off) :: avs) True fun pv => andO pv (andO (FnOk P f vs hs r hs') (putA d (callRes σ τ hl.length r hs') ρ hl fs fun ρ hl fs => K ρ hl fs ans))
          | false => none
        | _, _ => none
      | _ => none
    | _, _ => none
  | .bstr ax => match ans with
    | .a (.tx r) ans => match aopb (.bstr ax) ρ hl r with
      | some (p, s) => andO p (putA d s ρ hl fs fun ρ hl fs => K ρ hl fs ans)
      | none => none
    | _ => none
  | .mkList false sz n z ps => match ans with
    | .w ans => match aop (.mkList true sz n z ps) ρ hl with
      | some (p, s) => match idsB hl s with
        | true => andO p (putA d s ρ hl fs fun ρ hl fs => K ρ hl fs ans)
        | false => none
      | none => none
    | ans => stepTD d (.mkList false sz n z ps) ρ hl fs ans K
  | .mkSlice sz b z l c => match ans with
    | .w ans => match aop (.mkSlice sz b z l c) ρ hl with
      | some (p, s) => match datO s with
        | some s => match idsB hl s with
          | true => andO p (putA d s ρ hl fs fun ρ hl fs => K ρ hl fs ans)
          | false => none
        | none => none
      | none => none
    | ans => stepTD d (.mkSlice sz b z l c) ρ hl fs ans K
  | op => stepTD d op ρ hl fs ans K
def runTA (P : Program) : List AO → Env → List Ob → List Ft → AT P → (Env → List Ob → List Ft → AT P → Option Prop) → Option Prop
  | [], ρ, hl, fs, ans, K => K ρ hl fs ans
  | o :: os, ρ, hl, fs, ans, K => match o.grd with
    | none => stepT P o.dst o.op ρ hl fs ans fun ρ hl fs ans => runTA P os ρ hl fs ans K
    | some (t, want) => match get ρ t with
      | some .u => putA o.dst noRes ρ hl fs fun ρ hl fs => runTA P os ρ hl fs ans K
      | some (.e (.c (.t (.bool b)))) => match popT t ans with
        | some (x, y) => match want with
          | true => orO b (setE t (vB true) ρ fun ρ => stepT P o.dst o.op ρ hl fs x fun ρ hl fs ans => runTA P os ρ hl fs ans K) (setE t (vB false) ρ fun ρ => putA o.dst noRes ρ hl fs fun ρ hl fs => runTA P os ρ hl fs y K)
          | false => orO b (setE t (vB true) ρ fun ρ => putA o.dst noRes ρ hl fs fun ρ hl fs => runTA P os ρ hl fs x K) (setE t (vB false) ρ fun ρ => stepT P o.dst o.op ρ hl fs y fun ρ hl fs ans => runTA P os ρ hl fs ans K)
        | none => match popBT t ans with
          | some (c, r) => andO (b = c) (setE t (vB c) ρ fun ρ => match c == want with
            | true => stepT P o.dst o.op ρ hl fs r fun ρ hl fs ans => runTA P os ρ hl fs ans K
            | false => putA o.dst noRes ρ hl fs fun ρ hl fs => runTA P os ρ hl fs r K)
          | none => match b == want with
            | true => stepT P o.dst o.op ρ hl fs ans fun ρ hl fs ans => runTA P os ρ hl fs ans K
            | false => putA o.dst noRes ρ hl fs fun ρ hl fs => runTA P os ρ hl fs ans K
      | _ => none
def runT (P : Program) : AC → Env → List Ob → AT P → (Exit → Env → List Ob → AT P → Option Prop) → Option Prop
  | .skip, ρ, hl, ans, K => K .normal ρ hl ans
  | .region l up, ρ, hl, ans, K => runTA P l ρ hl [] ans fun ρ hl fs ans => match ordU up fs with
      | true => K .normal ρ hl ans
      | false => none
  | .seq a b, ρ, hl, ans, K => runT P a ρ hl ans fun ex ρ hl ans => match ex with
    | .normal => runT P b ρ hl ans K
    | ex => K ex ρ hl ans
  | .cond c a b, ρ, hl, ans, K => match ev ρ c with
    | some (.e (.c (.t (.bool v)))) => match popTX c ans with
      | some (x, y) => orO v (setX c (vB true) ρ fun ρ => runT P a ρ hl x K) (setX c (vB false) ρ fun ρ => runT P b ρ hl y K)
      | none => match popBTX c ans with
        | some (w, r) => andO (v = w) (setX c (vB w) ρ fun ρ => match w with
          | true => runT P a ρ hl r K
          | false => runT P b ρ hl r K)
        | none => match v with
          | true => runT P a ρ hl ans K
          | false => runT P b ρ hl ans K
    | _ => none
  | .block i a, ρ, hl, ans, K => runT P a ρ hl ans fun ex ρ hl ans => match ex with
    | .exit j => match Nat.beq j i with
      | true => K .normal ρ hl ans
      | false => K (.exit j) ρ hl ans
    | ex => K ex ρ hl ans
  | .loop _, _, _, _, _ => none
  | .scope _, _, _, _, _ => none
  | .bad, _, _, _, _ => none
  | .exit i, ρ, hl, ans, K => K (.exit i) ρ hl ans
  | .ret, ρ, hl, ans, K => K .ret ρ hl ans
theorem andO_ok {p q : Prop} {o : Option Prop} (h : andO p o = some q) (hq : q) : p ∧ ∃ r, o = some r ∧ r := by
  cases o with
  | none => cases h
  | some r => cases h; exact ⟨hq.1, r, rfl, hq.2⟩
theorem orO_ok {v : Bool} {q : Prop} {o o' : Option Prop} (h : orO v o o' = some q) (hq : q) : (v = true → ∃ r, o = some r ∧ r) ∧ (v = false → ∃ r, o' = some r ∧ r) := by
  cases o with
  | none => cases h
  | some r => cases o' with
    | none => cases h
    | some r' => cases h; exact ⟨fun e => ⟨r, rfl, hq.1 e⟩, fun e => ⟨r', rfl, hq.2 e⟩⟩
theorem askT_ok {op : AOp} {ρ : Env} {hl : List Ob} {p q : Prop} {s : Res} {o : Option Prop} (ha : aopx op ρ hl = some (p, s)) (h : askT op ρ hl p o = some q) (hq : q) : p ∧ ∃ r, o = some r ∧ r := by
  unfold askT at h
  split at h
  · rename_i ht; exact ⟨triv_ok ha ht, q, h, hq⟩
  · split at h
    · rename_i ht; exact ⟨auto_ok ha ht, q, h, hq⟩
    · exact andO_ok h hq
section
variable {P : Program} {N : Nat} {d : Option Nat} {op : AOp} {ρ : Env} {hl : List Ob} {fs : List Ft} {ans : AT P} {K : Env → List Ob → List Ft → AT P → Option Prop} {q : Prop}
theorem stepTD_ok (h : stepTD d op ρ hl fs ans K = some q) (hq : q) : ∃ s ans' p, OpS P N op ρ hl s ∧ K (pt d s.v ρ) (appL s hl) (fs ++ [s.ft hl.length]) ans' = some p ∧ p := by
  unfold stepTD at h
  split at h
  · rename_i p s ha
    split at h
    · rename_i hi
      rw [putA_eq] at h
      obtain ⟨hp, r, h1, h2⟩ := askT_ok ha h hq
      obtain ⟨p', q1, q2⟩ := aopx_ok ha hp
      exact ⟨s, ans, r, ⟨idsB_ok hi, fun o' ho => aop_ok ho q1 q2⟩, h1, h2⟩
    · cases h
  · split at h
    · split at h
      · rename_i p s ha
        rw [putA_eq] at h
        obtain ⟨hp, r, h1, h2⟩ := andO_ok h hq
        exact ⟨s, _, r, OpS.opo ha hp, h1, h2⟩
      · cases h
    · cases h
theorem trOp_mkList {o : Oper} {m : Bool} {sz n : Nat} {z : List D} {ps : List (Nat × AX)} (h : trOp P o = some (.mkList m sz n z ps)) : ∃ t e parts, o.op = .buildSlice t n parts ∧ P.underlying t = some (.slice e) ∧ sizeB P e = some sz ∧ zeroD P e = some z ∧
    listM (fun (p : Nat × Operand) => (trX p.2).map fun x => (p.1, x)) parts.toList = some ps ∧ 0 < sz ∧ z.length = sz ∧ n * sz ≤ 65536 := by
  cases hop : o.op with
  | buildSlice t len parts =>
    simp only [trOp, hop] at h
    split at h
    · rename_i e hu
      split at h
      · rename_i sz z ps h1 h2 h3
        split at h
        · rename_i hc
          cases h
          exact ⟨t, e, parts, rfl, hu, h1, h2, h3, hc.1, hc.2.1, hc.2.2⟩
        · cases h
      · cases h
    · cases h
  | _ =>
    simp only [trOp, hop] at h
    all_goals try (split at h <;> try contradiction)
    all_goals try (cases h; done)
    all_goals try (obtain ⟨x, _, hx⟩ := Option.map_eq_some_iff.1 h; cases hx; done)
    all_goals try (split at h <;> try (cases h; done))
    all_goals try (obtain ⟨x, _, hx⟩ := Option.map_eq_some_iff.1 h; cases hx; done)
    all_goals try (split at h <;> try (cases h; done))
    all_goals try (obtain ⟨x, _, hx⟩ := Option.map_eq_some_iff.1 h; cases hx; done)
    all_goals try (split at h <;> try (cases h; done))
    all_goals try (obtain ⟨x, _, hx⟩ := Option.map_eq_some_iff.1 h; cases hx; done)
    all_goals try (split at h <;> try (cases h; done))
    all_goals try (obtain ⟨x, _, hx⟩ := Option.map_eq_some_iff.1 h; cases hx; done)
    all_goals try (split at h <;> try (cases h; done))
    all_goals try (obtain ⟨x, _, hx⟩ := Option.map_eq_some_iff.1 h; cases hx; done)
theorem trOp_mkSlice {o : Oper} {sz by_ : Nat} {z : List D} {al ac : AX} (h : trOp P o = some (.mkSlice sz by_ z al ac)) : ∃ t e l c, o.op = .makeSlice t l c ∧ trX l = some al ∧ trX c = some ac ∧ P.underlying t = some (.slice e) ∧ sizeB P e = some sz ∧ bytesB P e = some by_ ∧ zeroD P e = some z ∧ 0 < sz ∧ z.length = sz := by
  cases hop : o.op with
  | makeSlice t l c =>
    simp only [trOp, hop] at h
    split at h
    · rename_i e hu
      split at h
      · rename_i sz by_ z al ac h1 h2 h3 h4 h5
        split at h
        · rename_i hc
          cases h
          exact ⟨t, e, l, c, rfl, h4, h5, hu, h1, h2, h3, hc.1, hc.2⟩
        · cases h
      · cases h
    · cases h
  | _ =>
    simp only [trOp, hop] at h
    all_goals try (split at h <;> try contradiction)
    all_goals try (cases h; done)
    all_goals try (obtain ⟨x, _, hx⟩ := Option.map_eq_some_iff.1 h; cases hx; done)
    all_goals try (split at h <;> try (cases h; done))
    all_goals try (obtain ⟨x, _, hx⟩ := Option.map_eq_some_iff.1 h; cases hx; done)
    all_goals try (split at h <;> try (cases h; done))
    all_goals try (obtain ⟨x, _, hx⟩ := Option.map_eq_some_iff.1 h; cases hx; done)
    all_goals try (split at h <;> try (cases h; done))
    all_goals try (obtain ⟨x, _, hx⟩ := Option.map_eq_some_iff.1 h; cases hx; done)
    all_goals try (split at h <;> try (cases h; done))
    all_goals try (obtain ⟨x, _, hx⟩ := Option.map_eq_some_iff.1 h; cases hx; done)
    all_goals try (split at h <;> try (cases h; done))
    all_goals try (obtain ⟨x, _, hx⟩ := Option.map_eq_some_iff.1 h; cases hx; done)
theorem OpS.mkDat {sz by_ : Nat} {z : List D} {al ac : AX} {p : Prop} {s s' : Res} (hi : idsB hl s' = true) (h : aop (.mkSlice sz by_ z al ac) ρ hl = some (p, s)) (hd : datO s = some s') (hp : p) : OpS P N (.mkSlice sz by_ z al ac) ρ hl s' := by
  refine ⟨idsB_ok hi, fun o ho => ?_⟩
  obtain ⟨t, e, l, c, hop, h1, h2, hu, h3, h4, h5, c1, c2⟩ := trOp_mkSlice ho
  exact s_mkSliceD hop h1 h2 (mem_xts (by simp [AOp.xs])) (mem_xts (by simp [AOp.xs])) hu h3 h4 h5 c1 c2 h hp hd
theorem OpS.mkOwn {sz n : Nat} {z : List D} {ps : List (Nat × AX)} {p : Prop} {s : Res} (hi : idsB hl s = true) (h : aop (.mkList true sz n z ps) ρ hl = some (p, s)) (hp : p) : OpS P N (.mkList false sz n z ps) ρ hl s := by
  refine ⟨idsB_ok hi, fun o ho => ?_⟩
  obtain ⟨t, e, parts, hop, hu, h1, h2, h3, c1, c2, c3⟩ := trOp_mkList ho
  exact s_mkList hop hu h1 h2 h3 (fun r hr => mem_xts (by simp only [AOp.xs]; exact List.mem_map.2 ⟨r, hr, rfl⟩)) c1 c2 c3 h hp
theorem stepT_ok (h : stepT P d op ρ hl fs ans K = some q) (hq : q) : ∃ s ans' p, OpS P N op ρ hl s ∧ K (pt d s.v ρ) (appL s hl) (fs ++ [s.ft hl.length]) ans' = some p ∧ p := by
  cases op with
  | call f axs =>
    simp only [stepT] at h
    split at h
    · rename_i avs hev
      split at h
      · rename_i τ r0 ans'
        split at h
        · rename_i vs hbv
          split at h
          · rename_i hp
            rw [vwVs_k, putA_eq] at h
            obtain ⟨h1, r, h2, h3⟩ := andO_ok h hq
            obtain ⟨h4, r', h5, h6⟩ := andO_ok h2 h3
            exact ⟨_, ans', r', OpS.lend τ hev hbv (by rw [vwVs_k]) h1 hp h4, h5, h6⟩
          · cases h
        · cases h
      · rename_i σ τ r0 hs' ans'
        split at h
        · rename_i vs hs hbv hbo
          split at h
          · rename_i hc
            rw [vwVs_k, putA_eq] at h
            obtain ⟨h1, r, h2, h3⟩ := andO_ok h hq
            obtain ⟨h4, r', h5, h6⟩ := andO_ok h2 h3
            exact ⟨_, ans', r', OpS.call σ τ hev hbv (by rw [vwVs_k]) h1 hbo hc h4, h5, h6⟩
          · cases h
        · cases h
      · rename_i τ f' vs' r0 hfn ans'
        split at h
        · rename_i vs hff hbv
          have hff : f = f' := Nat.eq_of_beq_eq_true hff
          subst hff
          split at h
          · rename_i hp
            rw [vwVs_k, putA_eq] at h
            obtain ⟨h1, r, h2, h3⟩ := andO_ok h hq
            obtain ⟨h4, r', h5, h6⟩ := andO_ok h2 h3
            exact ⟨_, ans', r', OpS.lend τ hev hbv (by rw [vwVs_k]) h1 hp (hfn.wk (leVs_ok h4) (.refl _)), h5, h6⟩
          · split at h
            · rename_i hc
              rw [vwVs_k, putA_eq] at h
              obtain ⟨h1, r, h2, h3⟩ := andO_ok h hq
              obtain ⟨h4, r', h5, h6⟩ := andO_ok h2 h3
              simp only [Bool.and_eq_true] at hc
              exact ⟨_, ans', r', OpS.call [] τ hev hbv (by rw [vwVs_k]) h1 rfl (by simp only [Bool.and_eq_true]; exact ⟨hc.2, rfl, hc.1⟩) (hfn.wk (leVs_ok h4) (.refl _)), h5, h6⟩
            · cases h
        · cases h
      · rename_i σ τ f' vs' hs0 r0 hs' hfn ans'
        split at h
        · rename_i vs hs hff hbv hbo
          have hff : f = f' := Nat.eq_of_beq_eq_true hff
          subst hff
          split at h
          · rename_i hc
            rw [vwVs_k, putA_eq] at h
            obtain ⟨h1, r, h2, h3⟩ := andO_ok h hq
            obtain ⟨h4, r', h5, h6⟩ := andO_ok h2 h3
            obtain ⟨h7, r'', h8, h9⟩ := andO_ok h5 h6
            have h7 : hs = hs0 := h7
            subst h7
            exact ⟨_, ans', r'', OpS.call σ τ hev hbv (by rw [vwVs_k]) h1 hbo hc (hfn.wk (leVs_ok h4) (.refl _)), h8, h9⟩
          · cases h
        · cases h
      · cases h
    · cases h
  | callv x axs =>
    simp only [stepT] at h
    split at h
    · rename_i avs f cs hev hf
      split at h
      · rename_i σ τ r0 hs' ans'
        split at h
        · rename_i vs hs hbv hbo
          split at h
          · rename_i hc
            rw [vwVs_k, putA_eq] at h
            obtain ⟨h1, r, h2, h3⟩ := andO_ok h hq
            obtain ⟨h4, r', h5, h6⟩ := andO_ok h2 h3
            exact ⟨_, ans', r', OpS.callv σ τ hf hev hbv (by rw [vwVs_k]) h1 hbo hc h4, h5, h6⟩
          · cases h
        · cases h
      · cases h
    · rename_i avs f id off hev hf
      split at h
      · rename_i σ τ r0 hs' ans'
        split at h
        · rename_i vs hs hbv hbo
          split at h
          · rename_i hc
            rw [vwVs_k, putA_eq] at h
            obtain ⟨h1, r, h2, h3⟩ := andO_ok h hq
            obtain ⟨h4, r', h5, h6⟩ := andO_ok h2 h3
            exact ⟨_, ans', r', OpS.callm σ τ hf hev hbv (by rw [vwVs_k]) h1 hbo hc h4, h5, h6⟩
          · cases h
        · cases h
      · cases h
    · cases h
  | bstr ax =>
    simp only [stepT] at h
    split at h
    · split at h
      · rename_i p s ha
        rw [putA_eq] at h
        obtain ⟨h1, r, h2, h3⟩ := andO_ok h hq
        exact ⟨s, _, r, OpS.opb _ ha h1, h2, h3⟩
      · cases h
    · cases h
  | mkSlice sz b z l c =>
    simp only [stepT] at h
    split at h
    · split at h
      · rename_i p s ha
        split at h
        · rename_i s' hd
          split at h
          · rename_i hi
            rw [putA_eq] at h
            obtain ⟨h1, r, h2, h3⟩ := andO_ok h hq
            exact ⟨s', _, r, OpS.mkDat hi ha hd h1, h2, h3⟩
          · cases h
        · cases h
      · cases h
    · exact stepTD_ok h hq
  | mkList m sz n z ps =>
    cases m with
    | true => exact stepTD_ok h hq
    | false =>
      simp only [stepT] at h
      split at h
      · split at h
        · rename_i p s ha
          split at h
          · rename_i hi
            rw [putA_eq] at h
            obtain ⟨h1, r, h2, h3⟩ := andO_ok h hq
            exact ⟨s, _, r, OpS.mkOwn hi ha h1, h2, h3⟩
          · cases h
        · cases h
      · exact stepTD_ok h hq
  | _ => exact stepTD_ok h hq
end
section
variable {P : Program} {N : Nat}
theorem runTA_ok {Kp : Env → List Ob → List Ft → Prop} {K : Env → List Ob → List Ft → AT P → Option Prop} (hK : ∀ ρ hl fs ans p, K ρ hl fs ans = some p → p → Kp ρ hl fs) : ∀ {os : List AO} {ρ : Env} {hl : List Ob} {fs : List Ft} {ans : AT P} {q : Prop}, runTA P os ρ hl fs ans K = some q → q → Rg P N os ρ hl fs Kp
  | [], ρ, hl, fs, ans, q, h, hq => hK _ _ _ _ _ h hq
  | o :: os, ρ, hl, fs, ans, q, h, hq => by
    have step : ∀ {ans : AT P} {q : Prop}, grdB ρ o.grd = some true → (stepT P o.dst o.op ρ hl fs ans fun ρ hl fs ans => runTA P os ρ hl fs ans K) = some q → q → Rg P N (o :: os) ρ hl fs Kp := by
      intro ans q hg h hq
      obtain ⟨s, ans', p, h1, h2, h3⟩ := stepT_ok (N := N) h hq
      exact .inr ⟨hg, s, h1, runTA_ok hK h2 h3⟩
    have skip : ∀ {ans : AT P} {q : Prop}, grdB ρ o.grd = some false → (putA o.dst noRes ρ hl fs fun ρ hl fs => runTA P os ρ hl fs ans K) = some q → q → Rg P N (o :: os) ρ hl fs Kp := by
      intro ans q hg h hq
      rw [putA_eq, appL_no] at h
      exact .inl ⟨hg, runTA_ok hK h hq⟩
    unfold runTA at h
    split at h
    · rename_i hg
      exact step (by rw [hg]; rfl) h hq
    · rename_i t want hg
      split at h
      · rename_i hv
        exact skip (by rw [hg]; simp only [grdB, hv]) h hq
      · rename_i b hv
        split at h
        · rename_i x y _
          split at h
          · obtain ⟨h1, h2⟩ := orO_ok h hq
            cases b with
            | true =>
              obtain ⟨r, r1, r2⟩ := h1 rfl
              rw [setE_id hv] at r1
              exact step (by rw [hg]; simp only [grdB, hv]; rfl) r1 r2
            | false =>
              obtain ⟨r, r1, r2⟩ := h2 rfl
              rw [setE_id hv] at r1
              exact skip (by rw [hg]; simp only [grdB, hv]; rfl) r1 r2
          · obtain ⟨h1, h2⟩ := orO_ok h hq
            cases b with
            | true =>
              obtain ⟨r, r1, r2⟩ := h1 rfl
              rw [setE_id hv] at r1
              exact skip (by rw [hg]; simp only [grdB, hv]; rfl) r1 r2
            | false =>
              obtain ⟨r, r1, r2⟩ := h2 rfl
              rw [setE_id hv] at r1
              exact step (by rw [hg]; simp only [grdB, hv]; rfl) r1 r2
        · split at h
          · rename_i c r _
            obtain ⟨rfl, p, hp, hpp⟩ := andO_ok h hq
            rw [setE_id hv] at hp
            split at hp
            · rename_i hbw
              exact step (by rw [hg]; simp only [grdB, hv, hbw]) hp hpp
            · rename_i hbw
              exact skip (by rw [hg]; simp only [grdB, hv, hbw]) hp hpp
          · split at h
            · rename_i hbw
              exact step (by rw [hg]; simp only [grdB, hv, hbw]) h hq
            · rename_i hbw
              exact skip (by rw [hg]; simp only [grdB, hv, hbw]) h hq
      · cases h
theorem runT_ok : ∀ {c : AC} {n0 : Nat} {ρ : Env} {hl : List Ob} {ans : AT P} {q : Prop} {Q : Exit → Env → List Ob → Prop} {K : Exit → Env → List Ob → AT P → Option Prop}, (∀ ex ρ hl ans p, K ex ρ hl ans = some p → p → Q ex ρ hl) → runT P c ρ hl ans K = some q → q → Tri P N n0 c ρ hl Q
  | .skip, n0, ρ, hl, ans, q, Q, K, hK, h, hq => Tri.skip (hK _ _ _ _ _ h hq)
  | .exit i, n0, ρ, hl, ans, q, Q, K, hK, h, hq => Tri.exit (hK _ _ _ _ _ h hq)
  | .ret, n0, ρ, hl, ans, q, Q, K, hK, h, hq => Tri.ret (hK _ _ _ _ _ h hq)
  | .loop a, n0, ρ, hl, ans, q, Q, K, hK, h, hq => by cases h
  | .scope a, n0, ρ, hl, ans, q, Q, K, hK, h, hq => by cases h
  | .bad, n0, ρ, hl, ans, q, Q, K, hK, h, hq => by cases h
  | .region l up, n0, ρ, hl, ans, q, Q, K, hK, h, hq => by
    unfold runT at h
    refine Tri.gs (runTA_ok (fun ρ hl fs ans p hp hq => ?_) h hq)
    split at hp
    · rename_i ho; exact ⟨ho, hK _ _ _ _ _ hp hq⟩
    · cases hp
  | .seq a b, n0, ρ, hl, ans, q, Q, K, hK, h, hq => by
    unfold runT at h
    refine Tri.seq (runT_ok (c := a) (Q := thenQ (fun ρ' hl' => Tri P N n0 b ρ' hl' Q) Q) (fun ex ρ hl ans p hp hq => ?_) h hq)
    cases ex with
    | normal => exact runT_ok (c := b) hK hp hq
    | _ => exact hK _ _ _ _ _ hp hq
  | .cond c a b, n0, ρ, hl, ans, q, Q, K, hK, h, hq => by
    unfold runT at h
    split at h
    · rename_i v hv
      split at h
      · rename_i x y _
        obtain ⟨h1, h2⟩ := orO_ok h hq
        refine Tri.cond hv (fun e => ?_) (fun e => ?_)
        · obtain ⟨r, r1, r2⟩ := h1 e
          rw [setX_id (by rw [hv, e])] at r1
          exact runT_ok (c := a) hK r1 r2
        · obtain ⟨r, r1, r2⟩ := h2 e
          rw [setX_id (by rw [hv, e])] at r1
          exact runT_ok (c := b) hK r1 r2
      · split at h
        · rename_i w r _
          obtain ⟨rfl, p, hp, hpp⟩ := andO_ok h hq
          rw [setX_id hv] at hp
          split at hp
          · exact Tri.cond hv (fun _ => runT_ok (c := a) hK hp hpp) (fun e => by cases e)
          · exact Tri.cond hv (fun e => by cases e) (fun _ => runT_ok (c := b) hK hp hpp)
        · split at h
          · exact Tri.cond hv (fun _ => runT_ok (c := a) hK h hq) (fun e => by cases e)
          · exact Tri.cond hv (fun e => by cases e) (fun _ => runT_ok (c := b) hK h hq)
    · cases h
  | .block i a, n0, ρ, hl, ans, q, Q, K, hK, h, hq => by
    unfold runT at h
    refine Tri.block (runT_ok (c := a) (Q := blockQ i Q) (fun ex ρ hl ans p hp hq => ?_) h hq)
    cases ex with
    | exit j =>
      simp only at hp
      split at hp
      · rename_i hj
        simp only [blockQ]
        rw [if_pos (Nat.eq_of_beq_eq_true hj)]
        exact hK _ _ _ _ _ hp hq
      · rename_i hj
        simp only [blockQ]
        rw [if_neg (Nat.ne_of_beq_eq_false hj)]
        exact hK _ _ _ _ _ hp hq
    | _ => exact hK _ _ _ _ _ hp hq
def leafQ {P : Program} (Q : Exit → Env → List Ob → Prop) (ex : Exit) (ρ : Env) (hl : List Ob) : AT P → Option Prop
  | .nil => some (Q ex ρ hl)
  | _ => none
/-- A piece of code without loops, all its roads at once. -/
theorem Tri.tree {c : AC} {n0 : Nat} {ρ : Env} {hl : List Ob} {Q : Exit → Env → List Ob → Prop} (ans : AT P) {q : Prop} (h : runT P c ρ hl ans (leafQ Q) = some q) (hq : q) : Tri P N n0 c ρ hl Q :=
  runT_ok (fun ex ρ hl ans p hp hq => by
    cases ans with
    | nil => cases hp; exact hq
    | _ => cases hp) h hq
def endB : Exit → Bool
  | .ret => true
  | .normal => true
  | _ => false
theorem RetQ.ends {res : List AR} {n0 : Nat} {r : V} {hs : List Ob} {ex : Exit} {ρ : Env} {hl : List Ob} (he : endB ex = true) (h : RetQ res n0 r hs .ret ρ hl) : RetQ res n0 r hs ex ρ hl :=
  ⟨by cases ex <;> first | (cases he; done) | simp, h.2⟩
def leafR {P : Program} (res : List AR) (n0 : Nat) (r : V) (hs : List Ob) (ex : Exit) (ρ : Env) (hl : List Ob) : AT P → Option Prop
  | .nil => match endB ex with
    | true => match finR res [] [] n0 ρ hl with
      | some (p, r', _ :: _) => none
      | some (p, r', []) => some (p ∧ hs = [] ∧ leP r' r)
      | none => none
    | false => none
  | .a (.call σ τ _ _) .nil => match endB ex with
    | true => match finR res σ τ n0 ρ hl with
      | some (p, r', hs'') => some (p ∧ LeOs hs'' hs ∧ leP r' r)
      | none => none
    | false => none
  | _ => none
theorem leafR_ok {P : Program} {res : List AR} {n0 : Nat} {r : V} {hs : List Ob} {ex : Exit} {ρ : Env} {hl : List Ob} {ans : AT P} {q : Prop} (h : leafR res n0 r hs ex ρ hl ans = some q) (hq : q) : RetQ res n0 r hs ex ρ hl := by
  unfold leafR at h
  split at h
  · split at h
    · rename_i he
      split at h
      · cases h
      · rename_i hf
        cases h
        obtain ⟨h1, h2, h3⟩ := hq
        exact RetQ.ends he (RetQ.of _ _ hf h1 (leP_ok h3) h2.symm)
      · cases h
    · cases h
  · split at h
    · rename_i he
      split at h
      · rename_i hf
        cases h
        obtain ⟨h1, h2, h3⟩ := hq
        exact RetQ.ends he (RetQ.le _ _ hf h1 (leP_ok h3) h2)
      · cases h
    · cases h
  · cases h
theorem Tri.treeR {c : AC} {n0 : Nat} {ρ : Env} {hl : List Ob} {res : List AR} {r : V} {hs : List Ob} (ans : AT P) {q : Prop} (h : runT P c ρ hl ans (leafR res n0 r hs) = some q) (hq : q) : Tri P N n0 c ρ hl (RetQ res n0 r hs) :=
  runT_ok (fun ex ρ hl ans p hp hq => leafR_ok hp hq) h hq
/-- A function without loops, all its roads at once. -/
theorem FnOk.tree {f : FuncId} {np n0 : Nat} {body : AC} {res : List AR} {vs : List V} {ρ : Env} {hs hs' : List Ob} {r : V} (hf : FnAt P f ⟨np, N, body, res⟩) (ans : AT P) {q : Prop} (hlen : vs.length = np) (hn : fN hs.length some = some n0) (hρ : fEnv 0 vs some = some ρ)
    (h : runT P body ρ hs ans (leafR res n0 r hs') = some q) (hq : q) : FnOk P f vs hs r hs' :=
  FnOk.start hf hlen hn hρ (Tri.treeR ans h hq)
end
end Go.Proofs.YthddlkhfkncgpaaGreat
set_option linter.unusedVariables false
set_option linter.unusedSimpArgs false
namespace Go.Proofs.YthddlkhfkncgpaaGreat
open Go.RowKit
open Go.ChangeMaps (setBlock)

/-- The operation's steps. -/
def OpN (P : Program) (N : Nat) (ao : AOp) (ρ : Env) (hl : List Ob) (S : Res → Prop) : Prop := ∀ o : Oper, trOp P o = some ao → ∀ (a : Act) (w : World) (g : Gh), a.tmps.size = N → (∀ i, hl.length ≤ i → g.μ i = none) → Rl w g (hx hl) → EnvOn w g a ρ ao.ts →
  o.wp P a w (fun a' w' => ∃ s u g', S s ∧ (∀ i ∈ s.ids, i < hl.length) ∧ a' = a.put o.dst u ∧ RV w' g' u s.v ∧ Rl w' g' (s.app hl.length (hx hl)) ∧ Go1 w g (hx hl) s.ids hl.length s.nw.length w' g' (s.app hl.length (hx hl))) (fun _ _ _ => False)
theorem OpN.of {P : Program} {N : Nat} {ao : AOp} {ρ : Env} {hl : List Ob} {s : Res} (h : OpS P N ao ρ hl s) : OpN P N ao ρ hl (· = s) := by
  intro o ho a w g hN hμ hR he
  have hr := h.2 o ho a w g (hx hl) hN (fun _ _ => rfl) (fun i hi => ⟨hμ i hi.1, by simp [hx, List.getD_eq_getElem?_getD, List.getElem?_eq_none hi.1]⟩) hR he
  exact Oper.wp_mono (fun a' w' ⟨u, g', h1, h2, h3, h4⟩ => ⟨s, u, g', rfl, h.1, h1, h2, h3, h4⟩) hr
def Rgn (P : Program) (N : Nat) : List AO → Env → List Ob → (Env → List Ob → Prop) → Prop
  | [], ρ, hl, K => K ρ hl
  | o :: os, ρ, hl, K =>
    (grdB ρ o.grd = some false ∧ Rgn P N os (pt o.dst .u ρ) hl K) ∨
    (grdB ρ o.grd = some true ∧ ∃ S : Res → Prop, OpN P N o.op ρ hl S ∧ ∀ s, S s → Rgn P N os (pt o.dst s.v ρ) (appL s hl) K)
section
variable {P : Program} {N n0 : Nat} {Q : Exit → Env → List Ob → Prop}
theorem Rgn.of_rg {K : Env → List Ob → Prop} {post : List AO} : ∀ {pre : List AO} {ρ : Env} {hl : List Ob} {fs : List Ft}, Rg P N pre ρ hl fs (fun ρ hl _ => Rgn P N post ρ hl K) → Rgn P N (pre ++ post) ρ hl K
  | [], _, _, _, h => h
  | o :: os, ρ, hl, fs, h => by
    rcases h with ⟨h1, h2⟩ | ⟨h1, s, h2, h3⟩
    · exact .inl ⟨h1, Rgn.of_rg h2⟩
    · exact .inr ⟨h1, _, OpN.of h2, fun s' hs => by subst hs; exact Rgn.of_rg h3⟩
theorem rn_text {ops : Array Oper} : ∀ (os : List Oper) (aos : List AO) (k : Nat) (ρ : Env) (hl : List Ob) (K : Env → List Ob → Prop) (a : Act) (w : World) (g : Gh) (a0 : Act) (w0 : World) (g0 : Gh) (h0 : Nat → Ob) (n0 : Nat),
    (∀ j, j < os.length → ops[k + j]? = os[j]?) → listM (trO P N ops) os = some aos → Rgn P N aos ρ hl K → a.tmps.size = N → a.defers = a0.defers → Rl w g (hx hl) → (∀ i, hl.length ≤ i → g.μ i = none) → EnvAll w g a ρ → Frl w0 g0 h0 n0 w g (hx hl) → n0 ≤ hl.length →
    ∀ (R : Exit → Act → World → Prop), (∀ a' w' ρ' hl' g', K ρ' hl' → a'.tmps.size = N → a'.defers = a0.defers → Rl w' g' (hx hl') → (∀ i, hl'.length ≤ i → g'.μ i = none) → EnvAll w' g' a' ρ' → Frl w0 g0 h0 n0 w' g' (hx hl') → n0 ≤ hl'.length → R .normal a' w') →
    wpOps P ops R ((List.range' k os.length)) a w
  | [], aos, k, ρ, hl, K, a, w, g, a0, w0, g0, h0, n0, hops, htr, hrg, hN, hdf, hR, hμ, he, hF, hn0, R, hend => by
    simp [listM] at htr
    subst htr
    exact hend a w ρ hl g hrg hN hdf hR hμ he hF hn0
  | o :: os, aos, k, ρ, hl, K, a, w, g, a0, w0, g0, h0, n0, hops, htr, hrg, hN, hdf, hR, hμ, he, hF, hn0, R, hend => by
    unfold listM at htr
    cases hto : trO P N ops o with
    | none => simp [hto] at htr
    | some ao => cases htl : listM (trO P N ops) os with
      | none => simp [hto, htl] at htr
      | some aos' =>
        simp [hto, htl] at htr
        subst htr
        have hk : ops[k]? = some o := by have := hops 0 (by simp); simpa using this
        have hnext : ∀ j, j < os.length → ops[k + 1 + j]? = os[j]? := fun j hj => by have := hops (j + 1) (by simp; omega); rw [show k + 1 + j = k + (j + 1) by omega, this]; simp
        obtain ⟨t1, t2, t3⟩ := trO_op hto
        have hd : ∀ q, o.dst = some q → q < a.tmps.size := fun q hq => by rw [hN]; exact t3 q (t2 ▸ hq)
        simp only [List.length_cons, List.range'_succ, wpOps, hk]
        rcases hrg with ⟨hg, hrg⟩ | ⟨hg, S, hs, hrg⟩
        · have hw := grd_ok hto (fun t want _ v hv => he t v hv) hg
          rw [hw]
          simp only [Bool.false_eq_true, if_false]
          refine rn_text os aos' (k + 1) _ hl K (a.put o.dst undef) w g a0 w0 g0 h0 n0 hnext htl hrg (by rw [put_size]; exact hN) (by rw [put_defers]; exact hdf) hR hμ ?_ hF hn0 R hend
          rw [← t2]
          exact he.put (fun _ _ => rfl) (Gm.refl g) .u hd
        · have hw := grd_ok hto (fun t want _ v hv => he t v hv) hg
          rw [hw]
          simp only [if_true]
          left
          have hr := hs o t1 a w g hN hμ hR (he.on _)
          refine wp_widen (Oper.wp_mono (fun a' w' h => ?_) hr)
          obtain ⟨s, u, g', hS, hids, rfl, hv, hR', hgo⟩ := h
          have happ := appL_get hids
          refine rn_text os aos' (k + 1) _ (appL s hl) K (a.put o.dst u) w' g' a0 w0 g0 h0 n0 hnext htl (hrg s hS) (by rw [put_size]; exact hN) (by rw [put_defers]; exact hdf) (by rw [happ]; exact hR') (fun i hi => ?_) ?_ ?_ (by rw [appL_length]; omega) R hend
          · rw [appL_length] at hi
            exact hgo.μn i (by unfold isNew; omega) (hμ i (by omega))
          · rw [← t2]
            exact he.put (hgo.same hR) hgo.gm hv hd
          · rw [happ]
            exact hF.step hgo hn0 (fun i h1 h2 => app_same h1 h2)
theorem Tri.regionN {l : List AO} {ρ : Env} {hl : List Ob} (h : Rgn P N l ρ hl (fun ρ' hl' => Q .normal ρ' hl')) : Tri P N n0 (.region l none) ρ hl Q := by
  intro code hc w0 g0 h0 df a w ha
  obtain ⟨id, ops, htr, hcase⟩ := trC_region hc
  obtain ⟨hN, hd, hn, g, hR, hμ, he, hF⟩ := ha
  rcases hcase with ⟨rfl, _⟩ | ⟨_, hu, _⟩
  · refine wp_region ?_
    rw [List.range_eq_range', ← Array.length_toList]
    refine rn_text (ops := ops) ops.toList l 0 ρ hl _ a w g a w0 g0 h0 n0 (fun j hj => by simp) htr h hN rfl hR hμ he hF hn _ (fun a' w' ρ' hl' g' hq q1 q2 q3 q4 q5 q6 q7 => ?_)
    exact ⟨ρ', hl', hq, q1, q2.trans hd, q7, g', q3, q4, q5, q6⟩
  · cases hu
end
/-- What is left of a map's walk. -/
def Mp.left (m : Mp) (seen : List Nat) : List (Nat × Int × List D) := m.es.filter fun e => !seen.contains e.1
section
variable {P : Program} {N n0 : Nat} {ρ : Env} {hl : List Ob}
/-- The step of a walk: nothing is left, or one of those that are left comes. -/
theorem OpN.next {x : AX} {id mid since last : Nat} {seen : List Nat} {ag : Bool} {m : Mp} (h1 : ev ρ x = some (vC (.ptr id 0))) (h2 : hx hl id = .it mid since seen last) (h3 : hx hl mid = .mp ag m) (ho' : ∀ e ∈ m.es, e.1 < since) (hs : since ≤ last) :
    OpN P N (.next x) ρ hl fun s => (m.left seen = [] ∧ s = { v := .tup [.c (.t (.bool false))] }) ∨ ∃ e ∈ m.left seen, s = { v := .tup [.c (.t (.bool true)), .c (.t (.int .i64 e.2.1)), valE ag e.2.2], wr := [(id, .it mid since (seen ++ [e.1]) m.ck)], rd := [id, mid] } := by
  intro o ho a w g hN hμ hR he
  obtain ⟨x', hop, hx'⟩ := trOp_tells ho
  have r1 := rv_c (ev_ok hx' he (mem_xts (by simp [AOp.xs])) h1)
  obtain ⟨l, lm, m1, m2, m3, m4, m5⟩ := h2 ▸ hR.objs id (by rw [h2]; rfl)
  obtain ⟨lm', arr, q1, q2, q3, q4, q5⟩ := h3 ▸ hR.objs mid (by rw [h3]; rfl)
  obtain rfl : lm = lm' := Option.some.inj (m3.symm.trans q1)
  generalize hxv : a.eval x' = u at *
  cases r1 with
  | ptr _ hμ' hn =>
    rename_i l'
    obtain rfl : l = l' := Option.some.inj (m1.symm.trans hμ')
    have hlive : (hx hl id).live = true := by rw [h2]; rfl
    have hid : id < hl.length := by
      rcases Nat.lt_or_ge id hl.length with h | h
      · exact h
      · rw [hμ id h] at m1; cases m1
    have hold : ∀ y ∈ arr.toList, y.born < since := fun y hy => by
      obtain ⟨j, hj, rfl⟩ := List.getElem_of_mem hy
      have hj' : j < arr.size := by simpa using hj
      obtain ⟨z, z1, z2, _⟩ := q4 j m.es[j] (List.getElem?_eq_getElem (by omega))
      rw [Array.getElem?_eq_getElem hj'] at z1
      cases z1
      simp only [Array.getElem_toList]
      rw [z2]
      exact ho' _ (List.getElem_mem _)
    have hex : ∀ v w', (Instr.next (.pointer (some ⟨l.blk, 0, none⟩)) false o.type).run P w = .ok v w' → (execOp a.eval o).run P w = .ok (.value v) w' := by
      intro v w' hr
      simp only [execOp, hop, hxv]
      exact run_v hr
    have hleft : ∀ e, e ∈ m.es → ∀ y, y ∈ arr.toList → y.born = e.1 → (seen.toArray.contains y.born) = seen.contains e.1 := fun e _ y _ hb => by rw [hb]; simp
    rcases run_next_at (P := P) w o.type l.blk lm.blk since last seen.toArray arr m.ck m4 q2 hold hs with ⟨h0, hrun⟩ | ⟨y, hy, w1, hw1, hrun⟩
    · unfold Oper.wp
      rw [hex _ _ hrun]
      refine ⟨{ v := .tup [.c (.t (.bool false))] }, .tuple #[.bool false], g, .inl ⟨?_, rfl⟩, fun i hi => by simp [Res.ids] at hi, rfl, .tup _ _ rfl fun j e hj => ?_, ?_, ?_⟩
      · refine List.filter_eq_nil_iff.2 fun e hem => ?_
        obtain ⟨j, hj, rfl⟩ := List.getElem_of_mem hem
        obtain ⟨z, z1, z2, _⟩ := q4 j m.es[j] (List.getElem?_eq_getElem hj)
        have hz := all_seen arr seen.toArray h0 z (by rw [← Array.getElem?_toList] at z1; exact List.mem_of_getElem? z1)
        rw [z2] at hz
        simpa using hz
      · match j, hj with
        | 0, hj => cases hj; exact ⟨_, rfl, .c (.t (.bool _))⟩
      · rw [app_none rfl rfl]; exact hR
      · rw [app_none rfl rfl]; exact Go1.refl _ _ _ _
    · obtain ⟨hym, hys⟩ := mem_left hy
      obtain ⟨j, hj, rfl⟩ := List.getElem_of_mem hym
      have hj' : j < arr.size := by simpa using hj
      have hje : j < m.es.length := by omega
      obtain ⟨z, z1, z2, z3, z4⟩ := q4 j m.es[j] (List.getElem?_eq_getElem hje)
      rw [Array.getElem?_eq_getElem hj'] at z1
      obtain rfl : arr[j] = z := Option.some.inj z1
      simp only [Array.getElem_toList] at hrun hys
      unfold Oper.wp
      rw [hex _ _ hrun]
      have hr1 : w1.heap[l.blk]? = some (.mapIter (some lm.blk) since seen.toArray last) := by rcases hw1 with rfl | rfl <;> exact m4
      have hk1 : Keeps (g.fp id) w w1 := by rcases hw1 with rfl | rfl; exact Keeps.refl _ _; exact (Keeps.refl _ _).drew
      have hkp : Keeps (g.fp id) w (setBlock w1 l.blk (.mapIter (some lm.blk) since (seen.toArray.push arr[j].born) m.ck)) := hk1.setB ((m5 _).2 rfl) _
      have hsm := Same.of_keeps hkp hR.lt (fun b hb hf => hR.imm id b hlive hf hb)
      obtain ⟨t1, t2⟩ := turn1 (base := hl.length) hR hlive hkp (.it mid since (seen ++ [m.es[j].1]) m.ck) ⟨l, lm, m1, m2, m3, by
        have := (Go.MapKept.heap_set (o' := .mapIter (some lm.blk) since (seen.toArray.push arr[j].born) m.ck) hr1).1
        rw [z2] at this
        simpa [setBlock, z2] using this, m5⟩ (.tup [.c (.t (.bool true)), .c (.t (.int .i64 m.es[j].2.1)), valE ag m.es[j].2.2]) [id, mid]
      refine ⟨_, _, g, .inr ⟨m.es[j], ?_, rfl⟩, fun i hi => ?_, rfl, .tup _ _ rfl fun q e hq => ?_, t1, t2⟩
      · refine List.mem_filter.2 ⟨List.getElem_mem _, ?_⟩
        rw [z2] at hys
        simpa using hys
      · simp [Res.ids] at hi; subst hi; exact hid
      · match q, hq with
        | 0, hq => cases hq; exact ⟨_, rfl, .c (.t (.bool _))⟩
        | 1, hq => cases hq; exact ⟨_, rfl, by rw [z3]; exact .c (.t (.int _ _))⟩
        | 2, hq => cases hq; exact ⟨_, rfl, z4.more hsm (Gm.refl g)⟩
/-- Whether a list is nil: it may be, if it is empty. -/
theorem OpN.eqNil {neg : Bool} {x : AX} {v : V} (h1 : ev ρ x = some v) (hv : (∃ d, v = vD d ∧ (d = .nil ∨ ∃ sz n r, d = .ls sz n r)) ∨ ∃ id off n, v = vC (.sl id off n)) :
    OpN P N (.eqNil neg x) ρ hl fun s => ∃ b, s = { v := vB b } := by
  intro o ho a w g hN hμ hR he
  obtain ⟨t, e, x', u, hop, hu, hx'⟩ := trOp_tells ho
  have r1 := ev_ok hx' he (mem_xts (by simp [AOp.xs])) h1
  have hsl : ∃ A n c, a.eval x' = .slice A n c := by
    rcases hv with ⟨d, rfl, rfl | ⟨sz, n, r, rfl⟩⟩ | ⟨id, off, n, rfl⟩
    · have := rv_d r1
      generalize a.eval x' = q at *
      cases this; exact ⟨_, _, _, rfl⟩
    · have := rv_d r1
      generalize a.eval x' = q at *
      cases this <;> exact ⟨_, _, _, rfl⟩
    · have := rv_c r1
      generalize a.eval x' = q at *
      cases this <;> exact ⟨_, _, _, rfl⟩
  obtain ⟨A, n, c, hA⟩ := hsl
  have hrun0 : ∀ d, (Op.equalIn (d + 1) t (.slice A n c) (.slice none 0 0)).run P w = .ok A.isNone w := fun d => by
    cases A <;> simp [Op.equalIn, run_underlying hu]
  have hrun : (Op.equalIn 10000 t (.slice A n c) (.slice none 0 0)).run P w = .ok A.isNone w := hrun0 9999
  have hex : (execOp a.eval o).run P w = .ok (.value (.bool (bif neg then !A.isNone else A.isNone))) w := by
    simp only [execOp, hop, hA]
    refine run_v ?_
    cases neg
    · simp [eqGuard, binOp, Op.equal, Op.maxDepth, hrun, Act.eval]
    · simp [eqGuard, binOp, Op.equal, Op.maxDepth, hrun, Act.eval]
  unfold Oper.wp
  rw [hex]
  refine ⟨{ v := vB (bif neg then !A.isNone else A.isNone) }, _, g, ⟨_, rfl⟩, fun i hi => by simp [Res.ids] at hi, rfl, .e (.c (.t (.bool _))), ?_, ?_⟩
  · rw [app_none rfl rfl]; exact hR
  · rw [app_none rfl rfl]; exact Go1.refl _ _ _ _
end
/-- A list that lies in a box, and is not turned any more, told as data. -/
structure FrzTo (id j q : Nat) (hl hl' : List Ob) : Prop where
  of : ∃ sz rows cs off n, hx hl id = .arr sz rows ∧ hx hl j = .box cs ∧ cs[q]? = some (.sl id off n) ∧ off + n ≤ rows.length ∧ hl' = (hl.set j (.box (cs.set q (.t (.ls sz n (rows.drop off)))))).set id .dead
theorem At.frz {N n0 : Nat} {w0 : World} {g0 : Gh} {h0 : Nat → Ob} {df : List Deferred} {a : Act} {w : World} {ρ : Env} {hl hl' : List Ob} {id j q : Nat} (ha : At N n0 w0 g0 h0 df a w ρ hl) (hf : FrzTo id j q hl hl') : At N n0 w0 g0 h0 df a w ρ hl' := by
  obtain ⟨sz, rows, cs, off, n, h1, h2, h3, h4, rfl⟩ := hf
  obtain ⟨hN, hd, hn, g, hR, hμ, he, hF⟩ := ha
  have hne : id ≠ j := by rintro rfl; rw [h1] at h2; cases h2
  have hli : (hx hl id).live = true := by rw [h1]; rfl
  have hlj : (hx hl j).live = true := by rw [h2]; rfl
  have hget : ∀ i, hx ((hl.set j (.box (cs.set q (.t (.ls sz n (rows.drop off)))))).set id .dead) i = if i = id then .dead else if i = j then .box (cs.set q (.t (.ls sz n (rows.drop off)))) else hx hl i := by
    intro i
    have hjl : j < hl.length := by
      rcases Nat.lt_or_ge j hl.length with h | h
      · exact h
      · simp [hx, List.getD_eq_getElem?_getD, List.getElem?_eq_none h] at h2
    by_cases e1 : i = id
    · subst e1
      rw [if_pos rfl]
      simp only [hx, List.getD_eq_getElem?_getD, List.getElem?_set]
      simp
      split <;> simp
    · rw [if_neg e1]
      by_cases e2 : i = j
      · subst e2
        rw [if_pos rfl]
        simp only [hx, List.getD_eq_getElem?_getD, List.getElem?_set]
        simp [Ne.symm e1, hjl]
      · rw [if_neg e2]
        simp only [hx, List.getD_eq_getElem?_getD, List.getElem?_set]
        simp [Ne.symm e1, Ne.symm e2]
  let g' : Gh := ⟨(g.sub (hx hl) [] [id]).I, g.μ, g.fp⟩
  have hI : ∀ b, g.I b → g'.I b := fun b h => .inl h
  have hgm : Gm g g' := ⟨hI, fun _ _ h => h⟩
  have hs : Same g.I w w := fun _ _ => rfl
  have hcell : ∀ v, RC w g v (.sl id off n) → RC w g' v (.t (.ls sz n (rows.drop off))) := by
    intro v hv
    have hb : C.bk [] [id] hl (.sl id off n) = some (.t (.ls sz n (rows.drop off))) := by
      have e : [id].contains id = true := by simp
      simp [C.bk, C.bk1, pos, e, h1]
    have hk : (C.sl id off n).vw [] [id] hl True _root_.id := by
      have e : [id].contains id = true := by simp
      simp [C.vw, C.vw1, pos, e, h1]
      exact h4
    have := bk_ok (σ := []) (τ := [id]) (h := hx hl) hR (fun _ _ => rfl) hv hk hb
    cases this with
    | t h => exact .t h
  refine ⟨hN, hd, by simpa using hn, g', ⟨fun i hl' => ?_, fun i k b hi hk hib hkb => ?_, fun i b hi hb hIb => ?_, fun b hb => ?_⟩, fun i hi => hμ i (by simpa using hi), fun t v hv => (he t v hv).more hs hgm, ?_⟩
  · rw [hget] at hl' ⊢
    split at hl'
    · cases hl'
    · split at hl'
      · rename_i e1 e2
        subst e2
        rw [if_neg e1, if_pos rfl]
        obtain ⟨l, arr, ty, m1, m2, m3, m4, m5, m6⟩ := h2 ▸ hR.objs i hlj
        refine ⟨l, arr, ty, m1, m2, m3, by simpa using m4, fun p c hp => ?_, m6⟩
        rw [List.getElem?_set] at hp
        split at hp
        · rename_i e3
          subst e3
          split at hp
          · cases hp
            obtain ⟨v, v1, v2⟩ := m5 _ _ h3
            exact ⟨v, v1, hcell v v2⟩
          · cases hp
        · obtain ⟨v, v1, v2⟩ := m5 _ _ hp
          exact ⟨v, v1, v2.more hs hgm⟩
      · rename_i e1 e2
        rw [if_neg e1, if_neg e2]
        exact HO.more hs (fun _ _ => rfl) (Nat.le_refl _) hgm rfl (hR.objs i hl')
  · rw [hget] at hi hk
    have hi' : (hx hl i).live = true := by
      split at hi
      · cases hi
      · split at hi
        · rename_i e; rw [e]; exact hlj
        · exact hi
    have hk' : (hx hl k).live = true := by
      split at hk
      · cases hk
      · split at hk
        · rename_i e; rw [e]; exact hlj
        · exact hk
    exact hR.disj i k b hi' hk' hib hkb
  · rw [hget] at hi
    split at hi
    · cases hi
    · rename_i e1
      have hi' : (hx hl i).live = true := by
        split at hi
        · rename_i e; rw [e]; exact hlj
        · exact hi
      rcases hIb with h | ⟨k, k1, k2, k3⟩
      · exact hR.imm i b hi' hb h
      · simp at k1
        subst k1
        exact e1 (hR.disj i k b hi' k2 hb k3)
  · rcases hb with h | ⟨k, k1, k2, k3⟩
    · exact hR.lt b h
    · exact (hR.objs k k2).lt k2 k3
  · refine ⟨hF.keeps, fun b h => hI b (hF.I b h), fun b h => ?_, hF.μ, fun b ⟨i, hi, hb⟩ => ?_⟩
    · rcases h with h | ⟨k, k1, k2, k3⟩
      · exact hF.In b h
      · exact .inr (hF.own b ⟨k, k2, k3⟩)
    · rw [hget] at hi
      refine hF.own b ⟨i, ?_, hb⟩
      split at hi
      · cases hi
      · split at hi
        · rename_i e; rw [e]; exact hlj
        · exact hi
theorem Tri.frz {P : Program} {N n0 : Nat} {ρ : Env} {hl hl' : List Ob} {Q : Exit → Env → List Ob → Prop} {c : AC} (id j q : Nat) (hf : FrzTo id j q hl hl') (hk : Tri P N n0 c ρ hl' Q) : Tri P N n0 c ρ hl Q :=
  fun code hc w0 g0 h0 df a w ha => hk code hc w0 g0 h0 df a w (ha.frz hf)
theorem Tri.endF {P : Program} {N n0 : Nat} {ρ : Env} {hl : List Ob} {Q : Exit → Env → List Ob → Prop} {c : AC} (id j q : Nat) (hk : Tri P N n0 c ρ hl (fun ex ρ' hl' => ∃ hl'', FrzTo id j q hl' hl'' ∧ Q ex ρ' hl'')) : Tri P N n0 c ρ hl Q :=
  fun code hc w0 g0 h0 df a w ha => wp_mono (hk code hc w0 g0 h0 df a w ha) fun e a' w' ⟨ρ', hl', ⟨hl'', h1, h2⟩, h3⟩ => ⟨ρ', hl'', h2, h3.frz h1⟩
/-- The rest of a region, of which but one thing comes. -/
theorem Rgn.run {P : Program} {N : Nat} {ρ ρ' : Env} {hl hl' : List Ob} {l : List AO} {K : Env → List Ob → Prop} (ans : List Ans) {fs' : List Ft} {k : Prop → Prop} (h : runA P l ρ hl [] ans (fun q => q) = some ⟨ρ', hl', fs', [], k⟩) (hp : k True) (hk : K ρ' hl') : Rgn P N l ρ hl K := by
  obtain ⟨_, h2⟩ := runA_ok (N := N) (K := fun ρ hl _ => K ρ hl) (fun _ h => h) h
  have := Rgn.of_rg (post := []) (K := K) (h2 True hp hk)
  rwa [List.append_nil] at this
/-- .. and its first operation, of which more than one may come. -/
theorem Rgn.step {P : Program} {N : Nat} {ρ : Env} {hl : List Ob} {d : Option Nat} {op : AOp} {l : List AO} {K : Env → List Ob → Prop} {S : Res → Prop} (h : OpN P N op ρ hl S) (hk : ∀ s, S s → Rgn P N l (pt d s.v ρ) (appL s hl) K) : Rgn P N (⟨d, op, none⟩ :: l) ρ hl K :=
  .inr ⟨rfl, S, h, hk⟩
end Go.Proofs.YthddlkhfkncgpaaGreat
set_option linter.unusedVariables false
set_option linter.unusedSimpArgs false
namespace Go.Proofs.YthddlkhfkncgpaaGreat
open Go.RowKit

theorem hx_lt {hl : List Ob} {i : Nat} (h : (hx hl i).live = true) : i < hl.length := by
  rcases Nat.lt_or_ge i hl.length with h' | h'
  · exact h'
  · simp [hx, List.getD_eq_getElem?_getD, List.getElem?_eq_none h'] at h; cases h
theorem hx_set {hl : List Ob} {i j : Nat} {o : Ob} (h : i < hl.length) : hx (hl.set i o) j = if j = i then o else hx hl j := by
  simp only [hx, List.getD_eq_getElem?_getD, List.getElem?_set]
  by_cases e : i = j
  · subst e; simp [h]
  · simp [e, Ne.symm e]
theorem hx_app {hl : List Ob} {j : Nat} {o : Ob} : hx (hl ++ [o]) j = if j = hl.length then o else hx hl j := by
  simp only [hx, List.getD_eq_getElem?_getD, List.getElem?_append]
  by_cases e : j = hl.length
  · subst e; simp
  · rw [if_neg e]
    by_cases h : j < hl.length
    · simp [h]
    · rw [if_neg h, List.getElem?_eq_none (by simp; omega), List.getElem?_eq_none (by omega)]
/-- The list of the j-th entry, taken out. -/
structure CarveTo (mid j : Nat) (hl hl' : List Ob) : Prop where
  of : ∃ m st k sz rows, hx hl mid = .cm false m none ∧ m.es[j]? = some (st, k, .i sz rows) ∧ hl' = hl.set mid (.cm false m (some (j, hl.length, rows.length))) ++ [.arr sz rows]
theorem At.carve {N n0 : Nat} {w0 : World} {g0 : Gh} {h0 : Nat → Ob} {df : List Deferred} {a : Act} {w : World} {ρ : Env} {hl hl' : List Ob} {mid j : Nat} (ha : At N n0 w0 g0 h0 df a w ρ hl) (hf : CarveTo mid j hl hl') : At N n0 w0 g0 h0 df a w ρ hl' := by
  obtain ⟨m, st, k, sz, rows, h1, h2, rfl⟩ := hf
  obtain ⟨hN, hd, hn, g, hR, hμ, he, hF⟩ := ha
  have hml : mid < hl.length := hx_lt (by rw [h1]; rfl)
  have hlive : (hx hl mid).live = true := by rw [h1]; rfl
  obtain ⟨l, arr, bs, m1, m2, m3, m4, m5⟩ := h1 ▸ hR.objs mid hlive
  have hinj : inn m none j := ⟨rfl, st, k, sz, rows, h2⟩
  obtain ⟨y, y1, y2, y3, y4⟩ := m3.2 j _ h2
  obtain ⟨hsz, c, ar, ty, b1, b2, b3, b4, b5, b6⟩ := (show InB w g.I (bs j) y.val sz rows from y4)
  have hget : ∀ i, hx (hl.set mid (.cm false m (some (j, hl.length, rows.length))) ++ [.arr sz rows]) i = if i = hl.length then .arr sz rows else if i = mid then .cm false m (some (j, hl.length, rows.length)) else hx hl i := by
    intro i
    rw [hx_app, List.length_set, hx_set hml]
  have hnl : ∀ i, (hx hl i).live = true → i ≠ hl.length := fun i hi e => by have := hx_lt hi; omega
  have hbj : g.fp mid (bs j) := (m5 _).2 (.inr ⟨j, hinj, rfl⟩)
  let g' : Gh := ⟨g.I, fun i => if i = hl.length then some ⟨bs j, false, sz, c⟩ else g.μ i, fun i b => if i = hl.length then b = bs j else if i = mid then g.fp mid b ∧ b ≠ bs j else g.fp i b⟩
  have hgm : Gm g g' := ⟨fun _ h => h, fun i l hl' => by
    simp only [g']
    rw [if_neg]
    · exact hl'
    · rintro rfl; rw [hμ _ (Nat.le_refl _)] at hl'; cases hl'⟩
  have hs : Same g.I w w := fun _ _ => rfl
  have hown : ∀ i b, (hx (hl.set mid (.cm false m (some (j, hl.length, rows.length))) ++ [.arr sz rows]) i).live = true → g'.fp i b → ∃ i', (i' = i ∨ (i = hl.length ∧ i' = mid)) ∧ (hx hl i').live = true ∧ g.fp i' b := by
    intro i b hi hb
    rw [hget] at hi
    simp only [g'] at hb
    by_cases e1 : i = hl.length
    · rw [if_pos e1] at hb
      exact ⟨mid, .inr ⟨e1, rfl⟩, hlive, hb ▸ hbj⟩
    · rw [if_neg e1] at hb hi
      by_cases e2 : i = mid
      · subst e2
        rw [if_pos rfl] at hb
        exact ⟨i, .inl rfl, hlive, hb.1⟩
      · rw [if_neg e2] at hb hi
        exact ⟨i, .inl rfl, hi, hb⟩
  refine ⟨hN, hd, by simp; omega, g', ⟨fun i hi => ?_, fun i k b hi hk hib hkb => ?_, fun i b hi hb hI => ?_, hR.lt⟩, fun i hi => ?_, fun t v hv => (he t v hv).more hs hgm, ?_⟩
  · rw [hget] at hi ⊢
    by_cases e1 : i = hl.length
    · rw [if_pos e1]
      subst e1
      refine ⟨hsz, ⟨bs j, false, sz, c⟩, by simp [g'], rfl, .inr ⟨rfl, b2, b3, fun b => by simp [g'], ar, ty, b4, b5, fun p r hr => ?_⟩⟩
      obtain ⟨e1, e2⟩ := b6 p r hr
      exact ⟨e1, e2⟩
    · rw [if_neg e1] at hi ⊢
      by_cases e2 : i = mid
      · rw [if_pos e2]
        subst e2
        have hin : ∀ q, inn m (some (j, hl.length, rows.length)) q ↔ (inn m none q ∧ q ≠ j) := fun q => by
          unfold inn
          by_cases hq : j = q
          · subst hq; simp [outAt]
          · simp [outAt, hq, Ne.symm hq]
        refine ⟨l, arr, bs, hgm.μ _ _ m1, m2, ⟨m3.1, fun q e hq => ?_⟩, fun p q hp hq => m4 p q ((hin p).1 hp).1 ((hin q).1 hq).1, fun b => ?_⟩
        · obtain ⟨x, x1, x2, x3, x4⟩ := m3.2 q e hq
          refine ⟨x, x1, x2, x3, ?_⟩
          by_cases hjq : j = q
          · subst hjq
            rw [y1] at x1
            cases x1
            simp only [outAt, if_true, MvR]
            rw [b1]
            have := RC.sl (w := w) (g := g') (id := hl.length) (l := ⟨bs j, false, sz, c⟩) 0 rows.length (by simp [g']) rfl (by simpa using b2)
            simpa using this
          · have : outAt (some (j, hl.length, rows.length)) q = none := by simp [outAt, hjq]
            rw [this]
            obtain ⟨st', k', v⟩ := e
            cases v with
            | o ds => exact RE.more (g' := g') hs hgm x4
            | i sz' rows' => exact InB.more (I' := g'.I) hs hgm.I rfl x4
        · simp only [g', if_neg (hnl i hlive), if_true]
          rw [m5]
          have hlb : l.blk ≠ bs j := fun e => by rw [e, b4] at m2; cases m2
          constructor
          · rintro ⟨rfl | ⟨q, q1, rfl⟩, h⟩
            · exact .inl rfl
            · exact .inr ⟨q, (hin q).2 ⟨q1, fun e => h (by rw [e])⟩, rfl⟩
          · rintro (rfl | ⟨q, q1, rfl⟩)
            · exact ⟨.inl rfl, hlb⟩
            · have q1 := (hin q).1 q1
              exact ⟨.inr ⟨q, q1.1, rfl⟩, fun e => q1.2 (m4 _ _ q1.1 hinj e)⟩
      · rw [if_neg e2] at hi ⊢
        refine HO.more hs (fun _ _ => rfl) (Nat.le_refl _) hgm ?_ (hR.objs i hi)
        funext b
        simp only [g', if_neg e1, if_neg e2]
  · by_cases e : i = k
    · exact e
    · exfalso
      obtain ⟨i', i1, i2, i3⟩ := hown i b hi hib
      obtain ⟨k', k1, k2, k3⟩ := hown k b hk hkb
      have := hR.disj i' k' b i2 k2 i3 k3
      subst this
      have hb2 : ∀ q, q ≠ hl.length → g'.fp q b → q = mid → b ≠ bs j := fun q q1 q2 q3 => by
        simp only [g', if_neg q1, if_pos q3] at q2
        exact q2.2
      have hb1 : g'.fp hl.length b → b = bs j := fun h => by simpa [g'] using h
      rcases i1 with rfl | ⟨rfl, rfl⟩ <;> rcases k1 with rfl | ⟨rfl, q2⟩
      · exact e rfl
      · subst q2
        exact hb2 _ (hnl _ i2) hib rfl (hb1 hkb)
      · exact hb2 _ (hnl _ i2) hkb rfl (hb1 hib)
      · exact e rfl
  · obtain ⟨i', i1, i2, i3⟩ := hown i b hi hb
    exact hR.imm i' b i2 i3 hI
  · simp at hi
    simp only [g']
    rw [if_neg (by omega)]
    exact hμ i (by omega)
  · refine ⟨hF.keeps, hF.I, hF.In, fun i hi => ?_, fun b ⟨i, hi, hb⟩ => ?_⟩
    · simp only [g']
      rw [if_neg (by omega)]
      exact hF.μ i hi
    · obtain ⟨i', _, i2, i3⟩ := hown i b hi hb
      exact hF.own b ⟨i', i2, i3⟩
theorem Tri.carve {P : Program} {N n0 : Nat} {ρ : Env} {hl hl' : List Ob} {Q : Exit → Env → List Ob → Prop} {c : AC} (mid j : Nat) (hf : CarveTo mid j hl hl') (hk : Tri P N n0 c ρ hl' Q) : Tri P N n0 c ρ hl Q :=
  fun code hc w0 g0 h0 df a w ha => hk code hc w0 g0 h0 df a w (ha.carve hf)
/-- .. and put back. -/
structure BackTo (mid id : Nat) (hl hl' : List Ob) : Prop where
  of : ∃ m j n sz rows, hx hl mid = .cm false m (some (j, id, n)) ∧ hx hl id = .arr sz rows ∧ n = rows.length ∧ 0 < n ∧ j < m.es.length ∧ hl' = (hl.set mid (.cm false (m.put j (.i sz rows)) none)).set id .dead
theorem At.back {N n0 : Nat} {w0 : World} {g0 : Gh} {h0 : Nat → Ob} {df : List Deferred} {a : Act} {w : World} {ρ : Env} {hl hl' : List Ob} {mid id : Nat} (ha : At N n0 w0 g0 h0 df a w ρ hl) (hf : BackTo mid id hl hl') : At N n0 w0 g0 h0 df a w ρ hl' := by
  obtain ⟨m, j, n, sz, rows, h1, h2, rfl, hn0, hj, rfl⟩ := hf
  obtain ⟨hN, hd, hn, g, hR, hμ, he, hF⟩ := ha
  have hne : id ≠ mid := by rintro rfl; rw [h1] at h2; cases h2
  have hml : mid < hl.length := hx_lt (by rw [h1]; rfl)
  have hil : id < hl.length := hx_lt (by rw [h2]; rfl)
  have hlive : (hx hl mid).live = true := by rw [h1]; rfl
  have hlive2 : (hx hl id).live = true := by rw [h2]; rfl
  obtain ⟨l, arr, bs, m1, m2, m3, m4, m5⟩ := h1 ▸ hR.objs mid hlive
  obtain ⟨hsz, l2, n1, n2, n3⟩ := h2 ▸ hR.objs id hlive2
  have hej := List.getElem?_eq_getElem hj
  obtain ⟨y, y1, y2, y3, y4⟩ := m3.2 j _ hej
  simp only [outAt, if_true, MvR] at y4
  have hrow : 0 < rows.length := hn0
  obtain ⟨hy, hnn, ht1, ht2, hfp, ar, ty, b4, b5, b6⟩ : (y.val = .slice (some ⟨l2.blk, 0, none⟩) rows.length l2.tot) ∧ l2.nil = false ∧ rows.length ≤ l2.tot ∧ l2.tot ≤ maxLen ∧ (∀ b, g.fp id b ↔ b = l2.blk) ∧ ∃ arr ty, w.heap[l2.blk]? = some (.cells arr ty (0, 0)) ∧ arr.size = l2.tot * sz ∧
         ∀ (p : Nat) r, rows[p]? = some r → r.length = sz ∧ ∀ (j : Nat) t, r[j]? = some t → ∃ v, arr[p * sz + j]? = some v ∧ Rd w g.I v t := by
    rcases n3 with ⟨_, _, hr, _⟩ | ⟨c1, c2, c3, c4, c5⟩
    · rw [hr] at hrow; simp at hrow
    · refine ⟨?_, c1, c2, c3, c4, c5⟩
      generalize y.val = v at y4
      generalize hnr : rows.length = n at y4
      cases y4 with
      | sl off n h hn' ho =>
        rename_i l'
        obtain rfl : l2 = l' := Option.some.inj (n1.symm.trans h)
        simp
      | slz off A h ho => omega
  let bs' : Nat → Nat := fun q => if q = j then l2.blk else bs q
  have hget : ∀ i, hx ((hl.set mid (.cm false (m.put j (.i sz rows)) none)).set id .dead) i = if i = id then .dead else if i = mid then .cm false (m.put j (.i sz rows)) none else hx hl i := by
    intro i
    rw [hx_set (by simpa using hil), hx_set hml]
  let g' : Gh := ⟨g.I, g.μ, fun i b => if i = mid then g.fp mid b ∨ g.fp id b else g.fp i b⟩
  have hgm : Gm g g' := ⟨fun _ h => h, fun _ _ h => h⟩
  have hs : Same g.I w w := fun _ _ => rfl
  have hown : ∀ i b, (hx ((hl.set mid (.cm false (m.put j (.i sz rows)) none)).set id .dead) i).live = true → g'.fp i b → i ≠ id ∧ ∃ i', (i' = i ∨ (i = mid ∧ i' = id)) ∧ (hx hl i').live = true ∧ g.fp i' b := by
    intro i b hi hb
    rw [hget] at hi
    simp only [g'] at hb
    by_cases e1 : i = id
    · rw [if_pos e1] at hi; cases hi
    · rw [if_neg e1] at hi
      refine ⟨e1, ?_⟩
      by_cases e2 : i = mid
      · subst e2
        rw [if_pos rfl] at hb
        rcases hb with hb | hb
        · exact ⟨i, .inl rfl, hlive, hb⟩
        · exact ⟨id, .inr ⟨rfl, rfl⟩, hlive2, hb⟩
      · rw [if_neg e2] at hb hi
        exact ⟨i, .inl rfl, hi, hb⟩
  have hin : ∀ q, inn (m.put j (.i sz rows)) none q ↔ (q = j ∨ inn m (some (j, id, rows.length)) q) := fun q => by
    unfold inn
    simp only [Cm.put, List.getElem?_modify]
    by_cases hq : j = q
    · subst hq
      rw [hej]
      simp [outAt]
    · simp [hq, outAt, Ne.symm hq]
  refine ⟨hN, hd, by simpa using hn, g', ⟨fun i hi => ?_, fun i k b hi hk hib hkb => ?_, fun i b hi hb hI => ?_, hR.lt⟩, fun i hi => hμ i (by simpa using hi), fun t v hv => (he t v hv).more hs hgm, ?_⟩
  · rw [hget] at hi ⊢
    by_cases e1 : i = id
    · rw [if_pos e1] at hi; cases hi
    · rw [if_neg e1] at hi ⊢
      by_cases e2 : i = mid
      · rw [if_pos e2]
        subst e2
        have hqj : ∀ q, inn m (some (j, id, rows.length)) q → q ≠ j := fun q hq e => by subst e; have := hq.1; simp [outAt] at this
        have hbl : ∀ q, inn m (some (j, id, rows.length)) q → bs q ≠ l2.blk := fun q hq e => by
          have h3 : g.fp i (bs q) := (m5 _).2 (.inr ⟨q, hq, rfl⟩)
          have h4 : g.fp id (bs q) := (hfp _).2 e
          exact hne (hR.disj id i (bs q) hlive2 hlive h4 h3)
        refine ⟨l, arr, bs', m1, m2, ⟨by simp [Cm.put, m3.1], fun q e hq => ?_⟩, fun p q hp hq hpq => ?_, fun b => ?_⟩
        · simp only [Cm.put] at hq
          rw [List.getElem?_modify] at hq
          by_cases hjq : j = q
          · subst hjq
            rw [hej] at hq
            simp at hq
            subst hq
            refine ⟨y, y1, y2, y3, ?_⟩
            simp only [outAt, MvR, bs', if_true]
            exact ⟨hsz, l2.tot, ar, ty, hy, ht1, ht2, b4, b5, b6⟩
          · simp [hjq] at hq
            obtain ⟨x, x1, x2, x3, x4⟩ := m3.2 q e hq
            refine ⟨x, x1, x2, x3, ?_⟩
            have : outAt (some (j, id, rows.length)) q = none := by simp [outAt, hjq]
            rw [this] at x4
            have hbq : bs' q = bs q := by simp [bs', Ne.symm hjq]
            rw [hbq]
            obtain ⟨st', k', v⟩ := e
            cases v with
            | o ds => exact RE.more (g' := g') hs hgm x4
            | i sz' rows' => exact InB.more (I' := g'.I) hs hgm.I rfl x4
        · rcases (hin p).1 hp with rfl | hp <;> rcases (hin q).1 hq with rfl | hq
          · rfl
          · simp only [bs', if_true, if_neg (hqj q hq)] at hpq
            exact absurd hpq.symm (hbl q hq)
          · simp only [bs', if_true, if_neg (hqj p hp)] at hpq
            exact absurd hpq (hbl p hp)
          · simp only [bs', if_neg (hqj p hp), if_neg (hqj q hq)] at hpq
            exact m4 p q hp hq hpq
        · simp only [g', if_true]
          rw [m5, hfp]
          constructor
          · rintro ((rfl | ⟨q, q1, rfl⟩) | rfl)
            · exact .inl rfl
            · exact .inr ⟨q, (hin q).2 (.inr q1), by simp [bs', hqj q q1]⟩
            · exact .inr ⟨j, (hin j).2 (.inl rfl), by simp [bs']⟩
          · rintro (rfl | ⟨q, q1, rfl⟩)
            · exact .inl (.inl rfl)
            · rcases (hin q).1 q1 with rfl | q1
              · exact .inr (by simp [bs'])
              · exact .inl (.inr ⟨q, q1, by simp [bs', hqj q q1]⟩)
      · rw [if_neg e2] at hi ⊢
        refine HO.more hs (fun _ _ => rfl) (Nat.le_refl _) hgm ?_ (hR.objs i hi)
        funext b
        simp only [g', if_neg e2]
  · obtain ⟨ii, i', i1, i2, i3⟩ := hown i b hi hib
    obtain ⟨kk, k', k1, k2, k3⟩ := hown k b hk hkb
    have := hR.disj i' k' b i2 k2 i3 k3
    subst this
    rcases i1 with rfl | ⟨rfl, q1⟩ <;> rcases k1 with rfl | ⟨rfl, q2⟩
    · rfl
    · exact absurd q2 ii
    · exact absurd q1 kk
    · rfl
  · obtain ⟨ii, i', i1, i2, i3⟩ := hown i b hi hb
    exact hR.imm i' b i2 i3 hI
  · refine ⟨hF.keeps, hF.I, hF.In, hF.μ, fun b ⟨i, hi, hb⟩ => ?_⟩
    obtain ⟨_, i', _, i2, i3⟩ := hown i b hi hb
    exact hF.own b ⟨i', i2, i3⟩
theorem Tri.back {P : Program} {N n0 : Nat} {ρ : Env} {hl hl' : List Ob} {Q : Exit → Env → List Ob → Prop} {c : AC} (mid id : Nat) (hf : BackTo mid id hl hl') (hk : Tri P N n0 c ρ hl' Q) : Tri P N n0 c ρ hl Q :=
  fun code hc w0 g0 h0 df a w ha => hk code hc w0 g0 h0 df a w (ha.back hf)
theorem Tri.endK {P : Program} {N n0 : Nat} {ρ : Env} {hl : List Ob} {Q : Exit → Env → List Ob → Prop} {c : AC} (mid id : Nat) (hk : Tri P N n0 c ρ hl (fun ex ρ' hl' => ∃ hl'', BackTo mid id hl' hl'' ∧ Q ex ρ' hl'')) : Tri P N n0 c ρ hl Q :=
  fun code hc w0 g0 h0 df a w ha => wp_mono (hk code hc w0 g0 h0 df a w ha) fun e a' w' ⟨ρ', hl', ⟨hl'', h1, h2⟩, h3⟩ => ⟨ρ', hl'', h2, h3.back h1⟩
/-- An array that is kept in memory, seen as a list; and back. -/
theorem At.seen {N n0 : Nat} {w0 : World} {g0 : Gh} {h0 : Nat → Ob} {df : List Deferred} {a : Act} {w : World} {ρ : Env} {hl : List Ob} {id t : Nat} {c : C} {l0 : Loc} {ob : Ob} (ha : At N n0 w0 g0 h0 df a w ρ hl) (hlive : (hx hl id).live = true) (hob : ob.live = true) (h0' : n0 ≤ id)
    (hh : ∀ g : Gh, Rl w g (hx hl) → g.μ hl.length = none → EnvAll w g a ρ → ∃ l : Loc, HO w (g.set hl.length l (g.fp id)) hl.length ob ∧ RV w (g.set hl.length l (g.fp id)) (a.eval (.tmp t)) (vC c)) :
    At N n0 w0 g0 h0 df a w ((t, vC c) :: ρ) (hl.set id .dead ++ [ob]) := by
  obtain ⟨h1, h2, h3, g, hR, hμ, he, hF⟩ := ha
  have hd : hx hl hl.length = .dead := by simp [hx, List.getD_eq_getElem?_getD]
  obtain ⟨l, k1, k2⟩ := hh g hR (hμ _ (Nat.le_refl _)) he
  obtain ⟨q1, q2⟩ := swap1 (w' := w) (base := hl.length) hR hlive (Keeps.refl _ _) (fun i hi => by rw [isNew1] at hi; subst hi; exact ⟨hμ _ (Nat.le_refl _), hd⟩) l (g.fp id) ob (fun b hb => .inl hb) k1 .u []
  have hlt : id < hl.length := hx_lt hlive
  have happ : hx (hl.set id .dead ++ [ob]) = Res.app { v := .u, wr := [(id, .dead)], nw := [ob] } hl.length (hx hl) := by
    funext i
    rw [hx_app, List.length_set, hx_set hlt]
    simp only [Res.app, getO]
    by_cases e1 : i = hl.length
    · subst e1
      have : ¬ id = hl.length := by omega
      simp [this]
    · by_cases e2 : id = i
      · subst e2; simp [e1]
      · rw [if_neg e1, if_neg (Ne.symm e2), if_neg e2]
        by_cases e3 : hl.length ≤ i
        · have hdd : hx hl i = .dead := by simp [hx, List.getD_eq_getElem?_getD, List.getElem?_eq_none e3]
          rw [if_pos e3]
          have : i - hl.length ≠ 0 := by omega
          simp [hdd, List.getElem?_cons, this]
        · rw [if_neg e3]
  refine ⟨h1, h2, by simp; omega, _, by rw [happ]; exact q1, fun i hi => ?_, fun t' v hv' => ?_, ?_⟩
  · simp at hi
    have : ¬ i = hl.length := by omega
    simp only [Gh.set, if_neg this]
    exact hμ i (by omega)
  · simp only [get] at hv'
    by_cases htt : t = t'
    · subst htt
      simp at hv'
      subst hv'
      exact k2
    · rw [beqF htt] at hv'
      exact (he t' v hv').more (fun _ _ => rfl) q2.gm
  · rw [happ]
    exact hF.step q2 h3 (fun i h1 h2 => app_same (s := { v := .u, wr := [(id, .dead)], nw := [ob] }) h1 h2)
theorem Tri.arrP {P : Program} {N n0 : Nat} {ρ : Env} {hl : List Ob} {Q : Exit → Env → List Ob → Prop} {c : AC} (t id : Nat) (ds : List D) (h0 : n0 ≤ id) (hm : ds.length ≤ maxLen) (hid : hx hl id = .box (ds.map .t)) (ht : get ρ t = some (vC (.ptr id 0)))
    (h : Tri P N n0 c ((t, vC (.pa hl.length ds.length)) :: ρ) (hl.set id .dead ++ [.arr 1 (ds.map fun d => [d])]) Q) : Tri P N n0 c ρ hl Q := by
  intro code hc w0 g0 h0' df a w hat
  refine h code hc w0 g0 h0' df a w (hat.seen (l0 := ⟨0, false, 1, 0⟩) (by rw [hid]; rfl) rfl h0 fun g hR hn he => ?_)
  have hlive : (hx hl id).live = true := by rw [hid]; rfl
  obtain ⟨l, arr, ty, m1, m2, m3, m4, m5, m6⟩ := hid ▸ hR.objs id hlive
  have hgm : Gm g (g.set hl.length ⟨l.blk, false, 1, ds.length⟩ (g.fp id)) := Gh.set_gm hn
  refine ⟨⟨l.blk, false, 1, ds.length⟩, ⟨by omega, _, Gh.set_at _ _ _ _, rfl, .inr ⟨rfl, by simp, hm, fun b => by rw [Gh.set_fp]; exact m6 b, arr, ty, m3, by rw [m4]; simp, fun p r hr => ?_⟩⟩, ?_⟩
  · rw [List.getElem?_map] at hr
    cases hd : ds[p]? with
    | none => rw [hd] at hr; cases hr
    | some d =>
      rw [hd] at hr
      cases hr
      refine ⟨rfl, fun j x hj => ?_⟩
      cases j with
      | zero =>
        cases hj
        obtain ⟨v, v1, v2⟩ := m5 p (.t d) (by rw [List.getElem?_map, hd]; rfl)
        refine ⟨v, by simpa using v1, ?_⟩
        cases v2 with
        | t hv => exact hv.more (fun _ _ => rfl) hgm.I
      | succ j => simp at hj
  · have hv := rv_c (he t _ ht)
    generalize a.eval (.tmp t) = v at *
    cases hv with
    | ptr _ hm hn' =>
      rename_i l'
      obtain rfl : l = l' := Option.some.inj (m1.symm.trans hm)
      exact .e (.c (.pa (l := ⟨l.blk, false, 1, ds.length⟩) _ (Gh.set_at _ _ _ _) rfl rfl))
theorem Tri.arrB {P : Program} {N n0 : Nat} {ρ : Env} {hl : List Ob} {Q : Exit → Env → List Ob → Prop} {c : AC} (t id : Nat) (ds : List D) (h0 : n0 ≤ id) (hid : hx hl id = .arr 1 (ds.map fun d => [d])) (ht : get ρ t = some (vC (.pa id ds.length)))
    (h : Tri P N n0 c ((t, vC (.ptr hl.length 0)) :: ρ) (hl.set id .dead ++ [.box (ds.map .t)]) Q) : Tri P N n0 c ρ hl Q := by
  intro code hc w0 g0 h0' df a w hat
  refine h code hc w0 g0 h0' df a w (hat.seen (l0 := ⟨0, false, 1, 0⟩) (by rw [hid]; rfl) rfl h0 fun g hR hn he => ?_)
  have hlive : (hx hl id).live = true := by rw [hid]; rfl
  obtain ⟨_, l, m1, m2, hcase⟩ := hid ▸ hR.objs id hlive
  have hgm : Gm g (g.set hl.length l (g.fp id)) := Gh.set_gm hn
  have hv := rv_c (he t _ ht)
  generalize a.eval (.tmp t) = v at *
  cases hv with
  | pa _ hm hn' htot =>
    rename_i l'
    obtain rfl : l = l' := Option.some.inj (m1.symm.trans hm)
    rcases hcase with ⟨hb, _⟩ | ⟨_, h3, h4, h5, arr, ty, h6, h7, h8⟩
    · rw [hb] at hn'; cases hn'
    · refine ⟨l, ⟨l, arr, ty, Gh.set_at _ _ _ _, hn', h6, by rw [h7, htot]; simp, fun j c' hj => ?_, fun b => by rw [Gh.set_fp]; exact h5 b⟩, .e (.c (.ptr 0 (Gh.set_at _ _ _ _) hn'))⟩
      rw [List.getElem?_map] at hj
      cases hd : ds[j]? with
      | none => rw [hd] at hj; cases hj
      | some d =>
        rw [hd] at hj
        cases hj
        obtain ⟨_, e2⟩ := h8 j [d] (by rw [List.getElem?_map, hd]; rfl)
        obtain ⟨v, v1, v2⟩ := e2 0 d rfl
        exact ⟨v, by simpa using v1, .t (v2.more (fun _ _ => rfl) hgm.I)⟩
end Go.Proofs.YthddlkhfkncgpaaGreat
set_option linter.unusedVariables false
set_option linter.unusedSimpArgs false
namespace Go.Proofs.YthddlkhfkncgpaaGreat
open Go.RowKit

/-- A slice of whole numbers that came in. -/
def IsRow (k : IntKind) (w : World) (a : Option Addr) (len cap : Nat) (zs : List Int) : Prop :=
  (a = none ∧ len = 0 ∧ cap = 0 ∧ zs = []) ∨
  ∃ x, a = some x ∧ len ≤ cap ∧ cap ≤ maxLen ∧ zs.length = cap ∧ (∀ i, i < zs.length → w.cell? (x.add i) = some (.int k (zs.getD i 0))) ∧ ∀ n ∈ zs, (Lit.int k n).wf = true
/-- All that is there does not change. -/
def gAll (w : World) : Gh := ⟨fun b => b < w.heap.size, fun _ => none, fun _ _ => False⟩
theorem Rl.all (w : World) : Rl w (gAll w) (hx []) :=
  ⟨fun i hi => by simp [hx, Ob.live] at hi, fun i j b hi => by simp [hx, Ob.live] at hi, fun i b hi => by simp [hx, Ob.live] at hi, fun b (hb : b < w.heap.size) => hb⟩
theorem FnOk.law {P : Program} {f : FuncId} {vs : List V} {hs' : List Ob} (h : FnOk P f vs [] (vB true) hs') {w : World} (args : Array Value) (hn : args.size = vs.length) (hv : ∀ (j : Nat) v x, args[j]? = some v → vs[j]? = some x → RV w (gAll w) v x) :
    Calls P f args w fun e w' => e = .returned (.bool true) ∧ Keeps Nope w w' := by
  refine (h.2 w (gAll w) args (Rl.all w) (fun _ _ => rfl) hn hv).mono fun e w' ⟨v, g', he, hr, _, hF⟩ => ?_
  refine ⟨?_, hF.keeps.mono fun b _ hb => ?_⟩
  · subst he
    cases hr with
    | e h =>
    cases h with
    | c h =>
    cases h with
    | t h =>
    cases h with
    | bool b => rfl
  · obtain ⟨i, hi, hb⟩ := hb
    exact hb
/-- Arguments, one by one. -/
inductive Args (w : World) : List Value → List V → Prop
  | nil : Args w [] []
  | cons {v : Value} {x : V} {l : List Value} {m : List V} (h : RV w (gAll w) v x) (k : Args w l m) : Args w (v :: l) (x :: m)
theorem Args.at {w : World} : ∀ {l : List Value} {m : List V}, Args w l m → l.length = m.length ∧ ∀ (j : Nat) v x, l[j]? = some v → m[j]? = some x → RV w (gAll w) v x
  | _, _, .nil => ⟨rfl, fun j v x h => by simp at h⟩
  | _, _, .cons h k => by
    obtain ⟨e1, e2⟩ := k.at
    refine ⟨by simp [e1], fun j v x hj hx => ?_⟩
    cases j with
    | zero => simp at hj hx; subst hj; subst hx; exact h
    | succ j => exact e2 j v x (by simpa using hj) (by simpa using hx)
theorem FnOk.law' {P : Program} {f : FuncId} {l : List Value} {vs : List V} {hs' : List Ob} (h : FnOk P f vs [] (vB true) hs') {w : World} (ha : Args w l vs) :
    Calls P f l.toArray w fun e w' => e = .returned (.bool true) ∧ Keeps Nope w w' :=
  h.law _ (by simpa using ha.at.1) (fun j v x hj hx => ha.at.2 j v x (by simpa using hj) hx)
theorem RV.int {w : World} {g : Gh} (k : IntKind) (n : Int) : RV w g (.int k n) (vI k n) := .e (.c (.t (.int k n)))
theorem RV.bool {w : World} {g : Gh} (b : Bool) : RV w g (.bool b) (vB b) := .e (.c (.t (.bool b)))
theorem RV.str {w : World} {g : Gh} (b : ByteArray) : RV w g (.string b) (vD (.str b)) := .e (.c (.t (.str b)))
theorem addr_eta (x : Addr) (h : x.spot = none) : x = ⟨x.block, x.off, none⟩ := by cases x; simp at h; rw [h]
/-- A slice of whole numbers that came in: its numbers, and their kinds' bounds. -/
theorem IsRow.rd {k : IntKind} {w : World} {a : Option Addr} {len cap : Nat} {zs : List Int} (h : IsRow k w a len cap zs) :
    Rd w (gAll w).I (.slice a len cap) (lI k (zs.take len)) ∧ (zs.take len).length = len ∧ len ≤ maxLen ∧ ∀ n ∈ zs.take len, (Lit.int k n).wf = true := by
  rcases h with ⟨rfl, rfl, rfl, rfl⟩ | ⟨x, rfl, h1, h2, h3, h4, h5⟩
  · exact ⟨.lsn none 1, rfl, by decide, fun n hn => by simp at hn⟩
  · have hl : (zs.take len).length = len := by simp; omega
    refine ⟨?_, hl, by omega, fun n hn => h5 n (List.mem_of_mem_take hn)⟩
    cases hz : zs with
    | nil =>
      subst hz
      simp at h3
      subst h3
      have : len = 0 := by omega
      subst this
      exact .lsn _ 1
    | cons z zs' =>
      have hs : x.spot = none := by
        have := h4 0 (by rw [hz]; simp)
        simp only [Addr.add, if_true, World.cell?] at this
        split at this
        · split at this
          · cases this
          · rename_i hs; simpa using hs
        · cases this
      rw [← hz]
      have hr : Rd w (gAll w).I (.slice (some x) len cap) (.ls 1 len (rI k zs)) := by
        rw [addr_eta x hs]
        refine .ls x.block x.off 1 len cap (rI k zs) (fun i _ => .int k (zs.getD i 0)) ?_ (by simp; omega) (by simp; omega) h2 (by omega) ?_ ?_ ?_
        · have := h4 0 (by rw [hz]; simp)
          have h' := World.block_lt_of_cell? w _ this
          simp [Addr.add] at h'
          exact h'
        · intro i r hr
          rw [rI, List.getElem?_map] at hr
          obtain ⟨y, _, rfl⟩ := Option.map_eq_some_iff.1 hr
          rfl
        · intro i r j t hr hj
          have hi : i < zs.length := by have := (List.getElem?_eq_some_iff.1 hr).1; simpa using this
          rw [rI_get hi] at hr
          cases hr
          cases j with
          | succ j => simp at hj
          | zero =>
            have e : (⟨x.block, x.off + (i * 1 + 0), none⟩ : Addr) = x.add i := by
              unfold Addr.add
              split
              · rename_i h; subst h; rw [addr_eta x hs]; simp
              · simp [hs]
            rw [e]
            exact h4 i hi
        · intro i r j t hr hj
          have hi : i < zs.length := by have := (List.getElem?_eq_some_iff.1 hr).1; simpa using this
          rw [rI_get hi] at hr
          cases hr
          cases j with
          | succ j => simp at hj
          | zero => simp at hj; subst hj; exact .int k _
      have := hr.le (d' := lI k (zs.take len)) (.cut hl.symm (by rw [rI_take]))
      exact this
theorem wf_u8 {n : Int} (h : (Lit.int .u8 n).wf = true) : 0 ≤ n ∧ n ≤ 255 := by simpa [Lit.wf, IntKind.min, IntKind.max, IntKind.signed, IntKind.bits] using h
theorem wf_u16 {n : Int} (h : (Lit.int .u16 n).wf = true) : 0 ≤ n ∧ n ≤ 65535 := by simpa [Lit.wf, IntKind.min, IntKind.max, IntKind.signed, IntKind.bits] using h
theorem wf_i64 {n : Int} (h : (Lit.int .i64 n).wf = true) : -9223372036854775808 ≤ n ∧ n ≤ 9223372036854775807 := by simpa [Lit.wf, IntKind.min, IntKind.max, IntKind.signed, IntKind.bits] using h
end Go.Proofs.YthddlkhfkncgpaaGreat
