/-
  Code, by rules (Tri), and functions out of their code.
-/
import Derived.Test.YtheaeddojcebjaaK18
set_option linter.unusedVariables false
set_option linter.unusedSimpArgs false
namespace Go.Proofs.Ytheaeddojcebjaa
open Go.RowKit

/-- Where one is: what the temporaries hold, what the objects are. -/
def At (N n0 : Nat) (w0 : World) (g0 : Gh) (h0 : Nat → Ob) (df : List Deferred) (a : Act) (w : World) (ρ : Env) (hl : List Ob) : Prop :=
  a.tmps.size = N ∧ a.defers = df ∧ n0 ≤ hl.length ∧ ∃ g, Rl w g (hx hl) ∧ (∀ i, hl.length ≤ i → g.μ i = none) ∧ EnvAll w g a ρ ∧ Frl w0 g0 h0 n0 w g (hx hl)
def Tri (P : Program) (N n0 : Nat) (c : AC) (ρ : Env) (hl : List Ob) (Q : Exit → Env → List Ob → Prop) : Prop :=
  ∀ code, trC P N code = some c → ∀ w0 g0 h0 df a w, At N n0 w0 g0 h0 df a w ρ hl → code.wp P (fun ex a' w' => ∃ ρ' hl', Q ex ρ' hl' ∧ At N n0 w0 g0 h0 df a' w' ρ' hl') a w
section
variable {P : Program} {N n0 : Nat} {ρ : Env} {hl : List Ob} {Q : Exit → Env → List Ob → Prop}
theorem Tri.mono {Q' : Exit → Env → List Ob → Prop} {c : AC} (h : Tri P N n0 c ρ hl Q') (hq : ∀ ex ρ hl, Q' ex ρ hl → Q ex ρ hl) : Tri P N n0 c ρ hl Q :=
  fun code hc w0 g0 h0 df a w ha => wp_mono (h code hc w0 g0 h0 df a w ha) fun e a' w' ⟨ρ', hl', h1, h2⟩ => ⟨ρ', hl', hq _ _ _ h1, h2⟩
theorem Tri.skip (h : Q .normal ρ hl) : Tri P N n0 .skip ρ hl Q := by
  intro code hc w0 g0 h0 df a w ha
  cases code with
  | skip => exact wp_skip ⟨ρ, hl, h, ha⟩
  | region id ops d => simp only [trC] at hc; split at hc <;> (try cases hc); split at hc <;> (try split at hc) <;> cases hc
  | seq x y => simp only [trC] at hc; split at hc <;> cases hc
  | cond x y z => simp only [trC] at hc; split at hc <;> cases hc
  | block x y => simp only [trC] at hc; cases h' : trC P N y <;> simp [h'] at hc
  | loop y => simp only [trC] at hc; cases h' : trC P N y <;> simp [h'] at hc
  | _ => simp [trC] at hc
theorem Tri.exit {id : Nat} (h : Q (.exit id) ρ hl) : Tri P N n0 (.exit id) ρ hl Q := by
  intro code hc w0 g0 h0 df a w ha
  cases code with
  | exit j => simp only [trC] at hc; cases hc; exact wp_exit ⟨ρ, hl, h, ha⟩
  | region id ops d => simp only [trC] at hc; split at hc <;> (try cases hc); split at hc <;> (try split at hc) <;> cases hc
  | seq x y => simp only [trC] at hc; split at hc <;> cases hc
  | cond x y z => simp only [trC] at hc; split at hc <;> cases hc
  | block x y => simp only [trC] at hc; cases h' : trC P N y <;> simp [h'] at hc
  | loop y => simp only [trC] at hc; cases h' : trC P N y <;> simp [h'] at hc
  | _ => simp [trC] at hc
theorem Tri.ret (h : Q .ret ρ hl) : Tri P N n0 .ret ρ hl Q := by
  intro code hc w0 g0 h0 df a w ha
  cases code with
  | ret => exact wp_ret ⟨ρ, hl, h, ha⟩
  | region id ops d => simp only [trC] at hc; split at hc <;> (try cases hc); split at hc <;> (try split at hc) <;> cases hc
  | seq x y => simp only [trC] at hc; split at hc <;> cases hc
  | cond x y z => simp only [trC] at hc; split at hc <;> cases hc
  | block x y => simp only [trC] at hc; cases h' : trC P N y <;> simp [h'] at hc
  | loop y => simp only [trC] at hc; cases h' : trC P N y <;> simp [h'] at hc
  | _ => simp [trC] at hc
theorem trC_seq {code : Code} {x y : AC} (hc : trC P N code = some (.seq x y)) : ∃ a b, code = .seq a b ∧ trC P N a = some x ∧ trC P N b = some y := by
  cases code with
  | seq a b =>
    simp only [trC] at hc
    split at hc
    · rename_i x' y' h1 h2; cases hc; exact ⟨a, b, rfl, h1, h2⟩
    · cases hc
  | region id ops d => simp only [trC] at hc; split at hc <;> (try cases hc); split at hc <;> (try split at hc) <;> cases hc
  | cond x y z => simp only [trC] at hc; split at hc <;> cases hc
  | block x y => simp only [trC] at hc; cases h' : trC P N y <;> simp [h'] at hc
  | loop y => simp only [trC] at hc; cases h' : trC P N y <;> simp [h'] at hc
  | _ => simp [trC] at hc
theorem trC_cond {code : Code} {c : AX} {x y : AC} (hc : trC P N code = some (.cond c x y)) : ∃ o a b, code = .cond o a b ∧ trX o = some c ∧ trC P N a = some x ∧ trC P N b = some y := by
  cases code with
  | cond o a b =>
    simp only [trC] at hc
    split at hc
    · rename_i c' x' y' h1 h2 h3; cases hc; exact ⟨o, a, b, rfl, h1, h2, h3⟩
    · cases hc
  | region id ops d => simp only [trC] at hc; split at hc <;> (try cases hc); split at hc <;> (try split at hc) <;> cases hc
  | seq x y => simp only [trC] at hc; split at hc <;> cases hc
  | block x y => simp only [trC] at hc; cases h' : trC P N y <;> simp [h'] at hc
  | loop y => simp only [trC] at hc; cases h' : trC P N y <;> simp [h'] at hc
  | _ => simp [trC] at hc
theorem trC_block {code : Code} {id : Nat} {x : AC} (hc : trC P N code = some (.block id x)) : ∃ a, code = .block id a ∧ trC P N a = some x := by
  cases code with
  | block i a =>
    simp only [trC] at hc
    cases h' : trC P N a with
    | none => simp [h'] at hc
    | some x' => simp [h'] at hc; obtain ⟨rfl, rfl⟩ := hc; exact ⟨a, rfl, h'⟩
  | region id ops d => simp only [trC] at hc; split at hc <;> (try cases hc); split at hc <;> (try split at hc) <;> cases hc
  | seq x y => simp only [trC] at hc; split at hc <;> cases hc
  | cond x y z => simp only [trC] at hc; split at hc <;> cases hc
  | loop y => simp only [trC] at hc; cases h' : trC P N y <;> simp [h'] at hc
  | _ => simp [trC] at hc
theorem trC_loop {code : Code} {x : AC} (hc : trC P N code = some (.loop x)) : ∃ a, code = .loop a ∧ trC P N a = some x := by
  cases code with
  | loop a =>
    simp only [trC] at hc
    cases h' : trC P N a with
    | none => simp [h'] at hc
    | some x' => simp [h'] at hc; subst hc; exact ⟨a, rfl, h'⟩
  | region id ops d => simp only [trC] at hc; split at hc <;> (try cases hc); split at hc <;> (try split at hc) <;> cases hc
  | seq x y => simp only [trC] at hc; split at hc <;> cases hc
  | cond x y z => simp only [trC] at hc; split at hc <;> cases hc
  | block x y => simp only [trC] at hc; cases h' : trC P N y <;> simp [h'] at hc
  | _ => simp [trC] at hc
theorem trC_region {code : Code} {l : List AO} {up : Option (List (List Nat))} (hc : trC P N code = some (.region l up)) :
    ∃ id ops, listM (trO P N ops) ops.toList = some l ∧ ((code = .region id ops false ∧ up = none) ∨ (code = .region id ops true ∧ up = some ((List.range ops.size).map (upon ops)) ∧ relB ops ops.size N [] = true ∧ lookB ops l = true ∧ P.follows .mixedOrders = true)) := by
  cases code with
  | region id ops d =>
    simp only [trC] at hc
    split at hc
    · cases hc
    · rename_i l' h1
      split at hc
      · rename_i hd
        split at hc
        · rename_i hb
          cases hc
          simp only [Bool.and_eq_true] at hb
          exact ⟨id, ops, h1, .inr ⟨by rw [hd], rfl, hb.1.1, hb.1.2, hb.2⟩⟩
        · cases hc
      · rename_i hd
        cases hc
        exact ⟨id, ops, h1, .inl ⟨by simp at hd; rw [hd], rfl⟩⟩
  | seq x y => simp only [trC] at hc; split at hc <;> cases hc
  | cond x y z => simp only [trC] at hc; split at hc <;> cases hc
  | block x y => simp only [trC] at hc; cases h' : trC P N y <;> simp [h'] at hc
  | loop y => simp only [trC] at hc; cases h' : trC P N y <;> simp [h'] at hc
  | _ => simp [trC] at hc
def thenQ (K : Env → List Ob → Prop) (Q : Exit → Env → List Ob → Prop) : Exit → Env → List Ob → Prop
  | .normal, ρ, hl => K ρ hl
  | e, ρ, hl => Q e ρ hl
theorem Tri.seq {x y : AC} (h : Tri P N n0 x ρ hl (thenQ (fun ρ' hl' => Tri P N n0 y ρ' hl' Q) Q)) : Tri P N n0 (.seq x y) ρ hl Q := by
  intro code hc w0 g0 h0 df a w ha
  obtain ⟨ca, cb, rfl, h1, h2⟩ := trC_seq hc
  refine wp_seq (wp_mono (h ca h1 w0 g0 h0 df a w ha) fun e a' w' ⟨ρ', hl', hq, hat⟩ => ?_)
  cases e with
  | normal => exact hq cb h2 w0 g0 h0 df a' w' hat
  | _ => exact ⟨ρ', hl', hq, hat⟩
theorem Tri.cond {c : AX} {x y : AC} {b : Bool} (hv : ev ρ c = some (vB b)) (ht : b = true → Tri P N n0 x ρ hl Q) (hf : b = false → Tri P N n0 y ρ hl Q) : Tri P N n0 (.cond c x y) ρ hl Q := by
  intro code hc w0 g0 h0 df a w ha
  obtain ⟨o, ca, cb, rfl, h1, h2, h3⟩ := trC_cond hc
  obtain ⟨hN, hd, hn, g, hR, hμ, he, hF⟩ := ha
  have hb := rv_bool (ev_ok h1 (he.on c.ts) (fun t ht => ht) hv)
  exact wp_cond_split hb (fun e => ht e ca h2 w0 g0 h0 df a w ⟨hN, hd, hn, g, hR, hμ, he, hF⟩) (fun e => hf e cb h3 w0 g0 h0 df a w ⟨hN, hd, hn, g, hR, hμ, he, hF⟩)
def blockQ (id : Nat) (Q : Exit → Env → List Ob → Prop) : Exit → Env → List Ob → Prop
  | .exit j, ρ, hl => if j = id then Q .normal ρ hl else Q (.exit j) ρ hl
  | e, ρ, hl => Q e ρ hl
theorem Tri.block {id : Nat} {x : AC} (h : Tri P N n0 x ρ hl (blockQ id Q)) : Tri P N n0 (.block id x) ρ hl Q := by
  intro code hc w0 g0 h0 df a w ha
  obtain ⟨ca, rfl, h1⟩ := trC_block hc
  refine wp_block (wp_mono (h ca h1 w0 g0 h0 df a w ha) fun e a' w' ⟨ρ', hl', hq, hat⟩ => ?_)
  cases e with
  | exit j =>
    simp only [blockQ] at hq
    simp only [Exit.inBlock]
    by_cases hj : j = id
    · rw [if_pos hj] at hq ⊢; exact ⟨ρ', hl', hq, hat⟩
    · rw [if_neg hj] at hq ⊢; exact ⟨ρ', hl', hq, hat⟩
  | _ => exact ⟨ρ', hl', hq, hat⟩
theorem wp_loop_n {c : Code} {R : Exit → Act → World → Prop} (J : Nat → Act → World → Prop) (round : ∀ n a w, J n a w → c.wp P (Exit.then (fun a' w' => ∃ m, m < n ∧ J m a' w') R) a w) : ∀ n a w, J n a w → (Code.loop c).wp P R a w := by
  intro n a w hJ b k cs
  have key : ∀ n a w, J n a w → ∃ e a' w', R e a' w' ∧ Arrives P (lone (b.at a (.code c :: .inLoop c :: k)) cs w) b k cs e a' w' := by
    intro n
    induction n using Nat.strongRecOn with
    | _ n ih =>
      intro a w hI
      obtain ⟨e, a₁, w₁, hq, harr⟩ := round n a w hI b (.inLoop c :: k) cs
      cases e with
      | normal =>
        obtain ⟨m, hlt, hI₁⟩ := hq
        obtain ⟨e₂, a₂, w₂, hq₂, harr₂⟩ := ih m hlt a₁ w₁ hI₁
        exact ⟨e₂, a₂, w₂, hq₂, .of_steps (Steps.trans harr (.one step_inLoop)) harr₂⟩
      | exit id => exact ⟨_, a₁, w₁, hq, .pass (x := .inLoop c) rfl (fun _ _ => .inl (by simp)) harr⟩
      | goto l => exact ⟨_, a₁, w₁, hq, .pass (x := .inLoop c) rfl (fun _ _ => .inl (by simp)) harr⟩
      | ret => exact ⟨_, a₁, w₁, hq, .pass (x := .inLoop c) rfl (fun _ _ => .inl (by simp)) harr⟩
      | panic ch => exact ⟨_, a₁, w₁, hq, .pass (x := .inLoop c) rfl (fun _ _ => .inl (by simp)) harr⟩
      | outgrown => exact ⟨_, a₁, w₁, hq, .pass (x := .inLoop c) rfl (fun _ _ => .inl (by simp)) harr⟩
  obtain ⟨e, a', w', hq, harr⟩ := key n a w hJ
  exact ⟨e, a', w', hq, .of_steps (.one step_loop) harr⟩
theorem Tri.loop {x : AC} (J : Nat → Env → List Ob → Prop) {n : Nat} (h0 : J n ρ hl) (round : ∀ n ρ hl, J n ρ hl → Tri P N n0 x ρ hl (thenQ (fun ρ' hl' => ∃ m, m < n ∧ J m ρ' hl') Q)) : Tri P N n0 (.loop x) ρ hl Q := by
  intro code hc w0 g0 h0' df a w ha
  obtain ⟨ca, rfl, h1⟩ := trC_loop hc
  refine wp_loop_n (fun n a w => ∃ ρ hl, J n ρ hl ∧ At N n0 w0 g0 h0' df a w ρ hl) (fun n a w ⟨ρ, hl, hj, hat⟩ => ?_) n a w ⟨ρ, hl, h0, ha⟩
  refine wp_mono (round n ρ hl hj ca h1 w0 g0 h0' df a w hat) fun e a' w' ⟨ρ', hl', hq, hat'⟩ => ?_
  cases e with
  | normal => obtain ⟨m, hm, hj'⟩ := hq; exact ⟨m, hm, ρ', hl', hj', hat'⟩
  | _ => exact ⟨ρ', hl', hq, hat'⟩
theorem Tri.region {l : List AO} {up : Option (List (List Nat))} (h : Rg P N l ρ hl [] (fun ρ' hl' fs => (∀ u, up = some u → ordB u fs = true) ∧ Q .normal ρ' hl')) : Tri P N n0 (.region l up) ρ hl Q := by
  intro code hc w0 g0 h0 df a w ha
  obtain ⟨id, ops, htr, hcase⟩ := trC_region hc
  obtain ⟨hN, hd, hn, g, hR, hμ, he, hF⟩ := ha
  rcases hcase with ⟨rfl, rfl⟩ | ⟨rfl, rfl, hrel, hlook, hmix⟩
  · refine wp_region ?_
    rw [List.range_eq_range', ← Array.length_toList]
    refine rg_text (ops := ops) ops.toList l 0 ρ hl [] _ a w g a w0 g0 h0 n0 (fun j hj => by simp) htr h hN rfl hR hμ he hF hn _ (fun a' w' ρ' hl' fs' g' hq q1 q2 q3 q4 q5 q6 q7 => ?_)
    exact ⟨ρ', hl', hq.2, q1, q2.trans hd, q7, g', q3, q4, q5, q6⟩
  · refine wp_region_any hmix ?_
    obtain ⟨ss, hst, hK⟩ := rg_seq l ρ hl [] _ h
    have hlen : l.length = ops.size := by rw [← (listM_ok htr).1]; simp
    rw [hlen] at hK
    obtain ⟨hord, hq⟩ := hK
    have hord := hord _ rfl
    rw [List.nil_append] at hord
    have Fi := relB_fine hrel
    have hts : ∀ k o, l[k]? = some o → (∀ t ∈ o.op.ts, t ∈ looksOf ops k) ∧ ∀ t want, o.grd = some (t, want) → t ∈ looksOf ops k := fun k o hk => by
      have hkl := (List.getElem?_eq_some_iff.1 hk).1
      have := List.all_eq_true.1 hlook k (List.mem_range.2 hkl)
      rw [hk] at this
      simp only [Bool.and_eq_true, List.all_eq_true, List.contains_iff_mem] at this
      refine ⟨this.1, fun t want hg => ?_⟩
      have h2 := this.2
      rw [hg] at h2
      simpa using h2
    have hcnt : cnt (Array.replicate ops.size false) ops.size = ops.size := by
      have : ∀ k, cnt (Array.replicate ops.size false) k = k := fun k => by
        induction k with
        | zero => rfl
        | succ k ih => simp only [cnt, ih, getD_replicate_false]; simp
      exact this _
    have hD0 : ∀ m, hDn ss hl (Array.replicate ops.size false) m = hx hl := fun m => by
      induction m with
      | zero => rfl
      | succ m ih => simp only [hDn, getD_replicate_false]; simpa using ih
    have hkd : Keeps (Own g (hx hl)) w { w with drawn := w.drawn + 1 } := (Keeps.refl _ w).drew
    have hRd : Rl { w with drawn := w.drawn + 1 } g (hx hl) := by
      have hgo : Go1 w g (hx hl) [] hl.length 0 { w with drawn := w.drawn + 1 } g (hx hl) := ⟨(Keeps.refl _ w).drew, Gm.refl g, fun b hb => .inl hb, fun _ _ hn => hn, fun _ _ _ => rfl, fun i b hi => by simp [isNew] at hi; omega⟩
      exact hR.step hgo (fun _ _ _ => rfl) (fun i hi => by simp [isNew] at hi; omega) (fun i hi => by simp [isNew] at hi; omega) (fun i j c hi => by simp [isNew] at hi; omega) (fun i c hi => by simp [isNew] at hi; omega) (fun b hb => hR.lt b hb)
    have hed : EnvAll { w with drawn := w.drawn + 1 } g a ρ := fun t v hv => RV.more (w := w) (w' := { w with drawn := w.drawn + 1 }) (fun _ _ => rfl) (Gm.refl g) (he t v hv)
    have hFd : Frl w g (hx hl) hl.length { w with drawn := w.drawn + 1 } g (hx hl) := ⟨hkd, fun _ h => h, fun _ h => .inl h, fun _ _ => rfl, fun _ h => .inl h⟩
    have hrun := rg_any (P := P) (N := N) (ops := ops) (aos := l) (ss := ss) (ρ := ρ) (hl := hl) (a0 := a) (w0 := w) (g0 := g) (Q' := fun ex a' w' => ∃ ρ' hl', Q ex ρ' hl' ∧ At N n0 w0 g0 h0 df a' w' ρ' hl') Fi htr hst hord hts hN (fun b W g' inv => ?_) ops.size (Array.replicate ops.size false) a { w with drawn := w.drawn + 1 } g
      ⟨⟨by simp, fun j oj _ hl' => (by rw [getD_replicate_false] at hl'; cases hl'), fun t _ ht => getD_in (by simpa using ht) (getD_replicate_false _ _)⟩, by rw [hD0]; exact hRd, fun j _ hl' => (by rw [getD_replicate_false] at hl'; cases hl'), fun _ _ => rfl, hed, by rw [hD0]; exact hFd,
        fun i hi _ => hμ i hi, rfl, rfl⟩ hcnt
    · rwa [Nat.sub_self, Nat.add_zero] at hrun
    · -- all are done
      have hcan : ∀ k, k < ops.size → (canon ops.size ops.size).getD k false = true := fun k hk => by simp [canon, hk]
      have hids : ∀ k, k < ops.size → ∀ x ∈ (ss k).ids, x < (heaps ss hl k).length := fun k hk x hx => by
        have hk' : k < l.length := by omega
        rcases hst k l[k] (List.getElem?_eq_getElem hk') with ⟨_, h⟩ | ⟨_, h⟩
        · rw [h] at hx; simp [noRes, Res.ids] at hx
        · exact h.1 x hx
      have hDe : hDn ss hl (canon ops.size ops.size) ops.size = hx (heaps ss hl ops.size) := by
        funext x
        have := hD_at (listed := canon ops.size ops.size) (x := x) hids (Nat.le_refl ops.size) (fun k hk _ => ⟨fun _ => hk, fun _ => hcan k hk⟩) ops.size (Nat.le_refl _)
        rw [this, Nat.min_self]
      have hR' := inv.rl
      have hF' := inv.frl
      rw [hDe] at hR' hF'
      have hle := heaps_le ss hl (Nat.zero_le ops.size)
      simp only [heaps] at hle
      have hdst : ∀ k o, l[k]? = some o → dstOf ops k = o.dst := fun k o hk => by
        obtain ⟨a, a1, a2⟩ := (listM_ok htr).2 k o hk
        have a1' : ops[k]? = some a := by simpa using a1
        simp only [dstOf, a1', Option.bind_some]
        exact (trO_op a2).2.1
      refine ⟨_, _, hq, by rw [inv.size]; exact hN, inv.defers.trans hd, Nat.le_trans hn hle, g', hR', fun i hi => ?_, fun t v hv => ?_, hF.trans hF' hn⟩
      · refine inv.μn i (Nat.le_trans hle hi) fun j hj _ hnj => ?_
        have := heaps_lt ss hl hj
        unfold isNew at hnj
        omega
      · rcases envs_get l ss ρ ops.size t v hv with ⟨x, ox, h1, h2, h3, rfl, h5⟩ | ⟨h1, h2⟩
        · exact inv.done x h1 (hcan x h1) t ((hdst x ox h2).trans h3)
        · have hfr := inv.fresh t fun x hx _ hd' => by
            have hx' : x < l.length := by omega
            exact h2 x l[x] hx (List.getElem?_eq_getElem hx') ((hdst x _ (List.getElem?_eq_getElem hx')).symm.trans hd')
          have e : b.eval (.tmp t) = a.eval (.tmp t) := by simp [Act.eval, hfr]
          rw [e]
          exact inv.env t v h1
end
end Go.Proofs.Ytheaeddojcebjaa
