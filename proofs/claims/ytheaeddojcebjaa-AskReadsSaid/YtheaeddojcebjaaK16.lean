/-
  Calls, as steps.
-/
import Derived.Test.YtheaeddojcebjaaK15
set_option linter.unusedVariables false
set_option linter.unusedSimpArgs false
namespace Go.Proofs.Ytheaeddojcebjaa
open Go.RowKit

section
variable {w : World} {g g2 : Gh} {φ : Nat → Nat}
theorem ren1_ok (hI : ∀ b, g.I b → g2.I b) (hμ : ∀ i l, g.μ i = some l → g2.μ (φ i) = some l) {v : Value} {c : C} (hv : RC w g v c) (hf : ∀ f cs, c ≠ .fn f cs) : RC w g2 v (c.ren1 φ) := by
  have hs : Same g.I w w := fun _ _ => rfl
  cases hv with
  | t hd => exact .t (hd.more hs hI)
  | nilp => exact .nilp
  | ptr off h hn => exact .ptr off (hμ _ _ h) hn
  | sl off n h hn ho => exact .sl off n (hμ _ _ h) hn ho
  | slz off A h ho => exact .slz off A (hμ _ _ h) ho
  | el i k h hn => exact .el i k (hμ _ _ h) hn
  | im b o cs us h1 h2 h3 => exact .im b o cs us (hI b h1) h2 (fun j t hj => (h3 j t hj).more hs hI)
  | mp h => exact .mp (hμ _ _ h)
  | fn f caps cs hsz h => exact absurd rfl (hf f cs)
theorem ren1_fn (hI : ∀ b, g.I b → g2.I b) (hμ : ∀ i l, g.μ i = some l → g2.μ i = some l) {v : Value} {c : C} (hv : RC w g v c) : RC w g2 v c := hv.more (fun _ _ => rfl) ⟨hI, hμ⟩
end
/-- No function value within a function value. -/
def C.ok : C → Bool
  | .fn _ cs => cs.all fun c => match c with | .fn _ _ => false | _ => true
  | _ => true
section
variable {w : World} {g g2 : Gh} {φ : Nat → Nat} (hI : ∀ b, g.I b → g2.I b) (hμ : ∀ i l, g.μ i = some l → g2.μ (φ i) = some l)
include hI hμ
theorem ren_ok {v : Value} {c : C} (hv : RC w g v c) (hk : c.ok = true) : RC w g2 v (c.ren φ) := by
  cases c with
  | fn f cs =>
    cases hv with
    | fn f caps cs hsz h =>
      refine .fn f caps (cs.map (C.ren1 φ)) (by simpa using hsz) fun j v c hv hc => ?_
      rw [List.getElem?_map] at hc
      cases hcj : cs[j]? with
      | none => simp [hcj] at hc
      | some c0 =>
        simp [hcj] at hc
        subst hc
        have hk' := List.all_eq_true.1 hk c0 (List.mem_of_getElem? hcj)
        exact ren1_ok hI hμ (h j v c0 hv hcj) (by rintro f cs rfl; simp at hk')
  | _ => exact ren1_ok hI hμ hv (by rintro f cs h; cases h)
def E.ok : E → Bool
  | .c x => x.ok
  | .agg cs => cs.all C.ok
theorem renE_ok {v : Value} {e : E} (hv : RE w g v e) (hk : e.ok = true) : RE w g2 v (e.ren φ) := by
  cases hv with
  | c h => exact .c (ren_ok hI hμ h hk)
  | agg arr cs hs h =>
    refine .agg arr _ (by simpa using hs) fun j c hj => ?_
    rw [List.getElem?_map] at hj
    cases hcj : cs[j]? with
    | none => simp [hcj] at hj
    | some c0 =>
      simp [hcj] at hj
      subst hj
      obtain ⟨u, u1, u2⟩ := h j c0 hcj
      exact ⟨u, u1, ren_ok hI hμ u2 (List.all_eq_true.1 hk c0 (List.mem_of_getElem? hcj))⟩
def V.ok : V → Bool
  | .e x => x.ok
  | .tup es => es.all E.ok
  | .u => true
theorem renV_ok {v : Value} {x : V} (hv : RV w g v x) (hk : x.ok = true) : RV w g2 v (x.ren φ) := by
  cases hv with
  | e h => exact .e (renE_ok hI hμ h hk)
  | tup arr es hs h =>
    refine .tup arr _ (by simpa using hs) fun j c hj => ?_
    rw [List.getElem?_map] at hj
    cases hcj : es[j]? with
    | none => simp [hcj] at hj
    | some c0 =>
      simp [hcj] at hj
      subst hj
      obtain ⟨u, u1, u2⟩ := h j c0 hcj
      exact ⟨u, u1, renE_ok hI hμ u2 (List.all_eq_true.1 hk c0 (List.mem_of_getElem? hcj))⟩
  | u => exact .u
def Ob.ok : Ob → Bool
  | .box cs => cs.all C.ok
  | .mp es => es.all fun e => e.1.ok && e.2.ok
  | _ => true
theorem renO_ok {j : Nat} (hf : g2.fp (φ j) = g.fp j) {o : Ob} (ho : HO w g j o) (hk : o.ok = true) : HO w g2 (φ j) (o.ren φ) := by
  have hs : Same g.I w w := fun _ _ => rfl
  cases o with
  | dead => trivial
  | box cs =>
    obtain ⟨l, arr, ty, m1, m2, m3, m4, m5, m6⟩ := ho
    refine ⟨l, arr, ty, hμ _ _ m1, m2, m3, by simpa using m4, fun q c hq => ?_, by rw [hf]; exact m6⟩
    rw [List.getElem?_map] at hq
    cases hcj : cs[q]? with
    | none => simp [hcj] at hq
    | some c0 =>
      simp [hcj] at hq
      subst hq
      obtain ⟨u, u1, u2⟩ := m5 q c0 hcj
      exact ⟨u, u1, ren_ok hI hμ u2 (List.all_eq_true.1 hk c0 (List.mem_of_getElem? hcj))⟩
  | arr sz rows =>
    obtain ⟨hsz, l, m1, m2, hcase⟩ := ho
    refine ⟨hsz, l, hμ _ _ m1, m2, ?_⟩
    rw [hf]
    rcases hcase with hc | ⟨c1, c2, c3, c4, arr, ty, c5, c6, c7⟩
    · exact .inl hc
    · exact .inr ⟨c1, c2, c3, c4, arr, ty, c5, c6, RowsIn.more hs hI c7⟩
  | mp es =>
    obtain ⟨l, arr, ck, m1, m3, m4, m5, m6⟩ := ho
    refine ⟨l, arr, ck, hμ _ _ m1, m3, by simpa using m4, fun q c hq => ?_, by rw [hf]; exact m6⟩
    rw [List.getElem?_map] at hq
    cases hcj : es[q]? with
    | none => simp [hcj] at hq
    | some c0 =>
      simp [hcj] at hq
      subst hq
      obtain ⟨u, u1, u2, u3⟩ := m5 q c0 hcj
      have hk' := List.all_eq_true.1 hk c0 (List.mem_of_getElem? hcj)
      simp only [Bool.and_eq_true] at hk'
      exact ⟨u, u1, renE_ok hI hμ u2 hk'.1, renE_ok hI hμ u3 hk'.2⟩
  | opq R =>
    obtain ⟨hst, l, m1, m2, m3, m4⟩ := ho
    refine ⟨hst, l, hμ _ _ m1, m2, ?_, ?_⟩
    · rw [hf]; exact m3
    · rw [hf]; exact m4
end
/-- A callee's objects by the caller's numbers. -/
def fwd (σ : List Nat) (base : Nat) (j : Nat) : Nat := match σ[j]? with
  | some i => i
  | none => base + (j - σ.length)
def wrs (φ : Nat → Nat) : List Nat → List Ob → List (Nat × Ob)
  | [], _ => []
  | i :: σ, [] => (i, .dead) :: wrs φ σ []
  | i :: σ, o :: hs => (i, o.ren φ) :: wrs φ σ hs
theorem beqF {a i : Nat} (h : ¬ a = i) : Nat.beq a i = false := by
  cases hb : Nat.beq a i with
  | false => rfl
  | true => exact absurd (Nat.eq_of_beq_eq_true hb) h
theorem wrs_ids (φ : Nat → Nat) : ∀ (σ : List Nat) (hs : List Ob), (wrs φ σ hs).map (·.1) = σ
  | [], _ => rfl
  | i :: σ, [] => by simp [wrs, wrs_ids φ σ []]
  | i :: σ, o :: hs => by simp [wrs, wrs_ids φ σ hs]
theorem wrs_get (φ : Nat → Nat) : ∀ (σ : List Nat) (hs : List Ob) (rest : List (Nat × Ob)) (i : Nat), getO (wrs φ σ hs ++ rest) i = match pos σ i with | some j => some ((hx hs j).ren φ) | none => getO rest i
  | [], hs, rest, i => rfl
  | a :: σ, [], rest, i => by
    simp only [wrs, List.cons_append, getO, pos]
    by_cases h : a = i
    · subst h; simp [hx, Ob.ren]
    · have : Nat.beq a i = false := beqF h
      rw [if_neg h, wrs_get φ σ [] rest i, this]
      simp only [cond_false]
      cases pos σ i <;> simp [hx]
  | a :: σ, o :: hs, rest, i => by
    simp only [wrs, List.cons_append, getO, pos]
    by_cases h : a = i
    · subst h; simp [hx]
    · have : Nat.beq a i = false := beqF h
      rw [if_neg h, wrs_get φ σ hs rest i, this]
      simp only [cond_false]
      cases pos σ i <;> simp [hx]
theorem getO_dead : ∀ (τ : List Nat) (i : Nat), getO (τ.map fun t => (t, Ob.dead)) i = if i ∈ τ then some .dead else none
  | [], i => by simp [getO]
  | a :: τ, i => by
    simp only [List.map_cons, getO, List.mem_cons]
    by_cases h : a = i
    · subst h; simp
    · rw [if_neg h, getO_dead τ i]
      have : ¬ i = a := fun e => h e.symm
      simp [this]
theorem pos_of {σ : List Nat} {i j : Nat} (hn : σ.Nodup) (h : σ[j]? = some i) : pos σ i = some j := by
  cases hp : pos σ i with
  | some k => rw [nodup_at hn h (pos_ok hp)]
  | none =>
    exfalso
    have : ∀ (l : List Nat), pos l i = none → i ∉ l := by
      intro l
      induction l with
      | nil => simp
      | cons a l ih =>
        intro h
        unfold pos at h
        cases hb : Nat.beq a i with
        | true => rw [hb] at h; cases h
        | false =>
          rw [hb] at h
          simp only [cond_false] at h
          have ha : a ≠ i := Nat.ne_of_beq_eq_false hb
          split at h
          · cases h
          · rename_i hl
            simp only [List.mem_cons, not_or]
            exact ⟨fun e => ha e.symm, ih hl⟩
    exact this σ hp (List.mem_of_getElem? h)
theorem pos_none {σ : List Nat} {i : Nat} (h : i ∉ σ) : pos σ i = none := by
  cases hp : pos σ i with
  | none => rfl
  | some j => exact absurd (List.mem_of_getElem? (pos_ok hp)) h
def Gh.back (g g' : Gh) (σ : List Nat) (base n : Nat) : Gh :=
  { I := g'.I, μ := fun i => if base ≤ i ∧ i < base + n then g'.μ (σ.length + (i - base)) else g.μ i,
    fp := fun i => match pos σ i with
      | some j => g'.fp j
      | none => if base ≤ i ∧ i < base + n then g'.fp (σ.length + (i - base)) else g.fp i }
section
variable {w w' : World} {g g' : Gh} {h : Nat → Ob} {hl hs hs' : List Ob} {σ τ : List Nat} {r : V} {base : Nat}
def callRes (σ τ : List Nat) (base : Nat) (r : V) (hs' : List Ob) : Res :=
  { v := r.ren (fwd σ base), wr := wrs (fwd σ base) σ hs' ++ τ.map (fun t => (t, Ob.dead)), rd := σ ++ τ, nw := (hs'.drop σ.length).map (Ob.ren (fwd σ base)) }
theorem live_ren {φ : Nat → Nat} {o : Ob} : (o.ren φ).live = o.live := by cases o <;> rfl
theorem hx_live {hs : List Ob} {j : Nat} (h : (hx hs j).live = true) : j < hs.length := by
  rcases Nat.lt_or_ge j hs.length with h' | h'
  · exact h'
  · simp [hx, List.getD_eq_getElem?_getD, List.getElem?_eq_none h'] at h; cases h
theorem call_ok (hR : Rl w g h) (ht : ∀ i ∈ τ, h i = hx hl i) (hσ : ∀ i ∈ σ, h i = hx hl i) (hnd : σ.Nodup) (hσb : ∀ i ∈ σ, i < base) (hb : listM (Ob.bk σ hl) (σ.map (hx hl)) = some hs)
    (hR' : Rl w' g' (hx hs')) (hF : Fr w (g.sub h σ τ) hs w' g' hs') (hok : hs'.all Ob.ok = true) (hnew : ∀ i, isNew base (hs'.length - σ.length) i → g.μ i = none ∧ h i = .dead) (hτb : ∀ i ∈ τ, i < base) :
    Rl w' (g.back g' σ base (hs'.length - σ.length)) ((callRes σ τ base r hs').app base h) ∧
      Go1 w g h (callRes σ τ base r hs').ids base (callRes σ τ base r hs').nw.length w' (g.back g' σ base (hs'.length - σ.length)) ((callRes σ τ base r hs').app base h) ∧
      (∀ i l, g'.μ i = some l → (g.back g' σ base (hs'.length - σ.length)).μ (fwd σ base i) = some l) := by
  obtain ⟨l1, l2⟩ := listM_ok hb
  have hlen : hs.length = σ.length := by rw [← l1]; simp
  have hlen' : σ.length ≤ hs'.length := hlen ▸ hF.len
  have hids : (callRes σ τ base r hs').ids = σ ++ τ := by simp [callRes, Res.ids, wrs_ids, List.map_map, Function.comp_def]
  have hnwl : (callRes σ τ base r hs').nw.length = hs'.length - σ.length := by simp [callRes]
  -- what is at an object behind the call
  have happ : ∀ i, (callRes σ τ base r hs').app base h i = match pos σ i with
      | some j => (hx hs' j).ren (fwd σ base)
      | none => if i ∈ τ then .dead else if base ≤ i ∧ i < base + (hs'.length - σ.length) then (hx hs' (σ.length + (i - base))).ren (fwd σ base) else h i := by
    intro i
    simp only [Res.app, callRes, wrs_get, getO_dead]
    cases hp : pos σ i with
    | some j => rfl
    | none =>
      by_cases hit : i ∈ τ
      · simp [hit]
      · simp only [hit, if_false]
        by_cases hb1 : base ≤ i
        · rw [if_pos hb1, List.getElem?_map, List.getElem?_drop]
          by_cases hb2 : i < base + (hs'.length - σ.length)
          · rw [if_pos ⟨hb1, hb2⟩]
            have : σ.length + (i - base) < hs'.length := by omega
            simp [this, hx, List.getD_eq_getElem?_getD]
          · rw [if_neg (by omega)]
            rw [List.getElem?_eq_none (by omega)]
            rfl
        · rw [if_neg hb1, if_neg (by omega)]
  have own_tch : ∀ b, Own (g.sub h σ τ) (hx hs) b → Tch g h (σ ++ τ) b := by
    rintro b ⟨j, hj, hf⟩
    have hjl := hx_live hj
    obtain ⟨a, a1, a2⟩ := l2 j _ (List.getElem?_eq_getElem hjl)
    rw [List.getElem?_map] at a1
    cases hi : σ[j]? with
    | none => simp [hi] at a1
    | some i =>
      simp [hi] at a1
      simp only [Gh.sub, hi] at hf
      have him := List.mem_of_getElem? hi
      refine ⟨i, by simp [him], ?_, hf⟩
      rw [hσ i him, a1]
      cases a with
      | dead => simp [Ob.bk] at a2; simp [hx, List.getD_eq_getElem?_getD, List.getElem?_eq_getElem hjl, ← a2] at hj; cases hj
      | _ => rfl
  have notnew : ∀ i ∈ σ, ¬ (base ≤ i ∧ i < base + (hs'.length - σ.length)) := fun i hi hc => by have := hσb i hi; omega
  have hfwd1 : ∀ {j i : Nat}, σ[j]? = some i → fwd σ base j = i := fun hj => by simp [fwd, hj]
  have hfwd2 : ∀ {j : Nat}, σ.length ≤ j → fwd σ base j = base + (j - σ.length) := fun hj => by simp [fwd, List.getElem?_eq_none hj]
  have hμ : ∀ i l, g'.μ i = some l → (g.back g' σ base (hs'.length - σ.length)).μ (fwd σ base i) = some l := by
    intro i l hm
    by_cases hi : i < σ.length
    · have hs0 : σ[i]? = some σ[i] := List.getElem?_eq_getElem hi
      rw [hfwd1 hs0]
      have : g'.μ i = g.μ σ[i] := by rw [hF.μ i (by omega)]; exact Gh.sub_μ hs0
      simp only [Gh.back]
      rw [if_neg (notnew _ (List.mem_of_getElem? hs0)), ← this]
      exact hm
    · rw [hfwd2 (by omega)]
      have hilt : i < hs'.length := by
        rcases Nat.lt_or_ge i hs'.length with h | h
        · exact h
        · rw [hF.μn i h] at hm; cases hm
      simp only [Gh.back]
      rw [if_pos (by omega), show σ.length + (base + (i - σ.length) - base) = i by omega]
      exact hm
  have hfp : ∀ j, j < hs'.length → (g.back g' σ base (hs'.length - σ.length)).fp (fwd σ base j) = g'.fp j := by
    intro j hj
    by_cases hi : j < σ.length
    · have hs0 : σ[j]? = some σ[j] := List.getElem?_eq_getElem hi
      rw [hfwd1 hs0]
      simp only [Gh.back, pos_of hnd hs0]
    · rw [hfwd2 (by omega)]
      have hno : base + (j - σ.length) ∉ σ := fun hm => by have := hσb _ hm; omega
      simp only [Gh.back, pos_none hno]
      rw [if_pos (by omega), show σ.length + (base + (j - σ.length) - base) = j by omega]
  -- an object that is touched or new, and lives
  have key : ∀ i, (i ∈ σ ++ τ ∨ isNew base (hs'.length - σ.length) i) → ((callRes σ τ base r hs').app base h i).live = true → ∃ j, j < hs'.length ∧ (hx hs' j).live = true ∧ i = fwd σ base j ∧ (callRes σ τ base r hs').app base h i = (hx hs' j).ren (fwd σ base) := by
    intro i hi hlv
    have ha := happ i
    cases hp : pos σ i with
    | some j =>
      simp only [hp] at ha
      rw [ha, live_ren] at hlv
      exact ⟨j, hx_live hlv, hlv, (hfwd1 (pos_ok hp)).symm, ha⟩
    | none =>
      simp only [hp] at ha
      by_cases hit : i ∈ τ
      · rw [if_pos hit] at ha; rw [ha] at hlv; cases hlv
      · rw [if_neg hit] at ha
        have hnewi : isNew base (hs'.length - σ.length) i := by
          rcases hi with hi | hi
          · rcases List.mem_append.1 hi with hi | hi
            · exfalso
              obtain ⟨j, hj, hji⟩ := List.mem_iff_getElem.1 hi
              have : pos σ i = some j := pos_of hnd (by rw [List.getElem?_eq_getElem hj, hji])
              rw [hp] at this; cases this
            · exact absurd hi hit
          · exact hi
        rw [if_pos (show base ≤ i ∧ i < base + (hs'.length - σ.length) from hnewi)] at ha
        rw [ha, live_ren] at hlv
        obtain ⟨n1, n2⟩ := hnewi
        exact ⟨_, by omega, hlv, by rw [hfwd2 (by omega)]; omega, ha⟩
  have hg : Go1 w g h (callRes σ τ base r hs').ids base (callRes σ τ base r hs').nw.length w' (g.back g' σ base (hs'.length - σ.length)) ((callRes σ τ base r hs').app base h) := by
    rw [hids, hnwl]
    refine ⟨hF.keeps.mono (fun b _ hb => own_tch b hb), ⟨fun b hb => hF.I b (.inl hb), fun i l hm => ?_⟩, fun b hb => ?_, fun i hi hn => ?_, fun i hi hn => ?_, fun i b hi hlv hb => ?_⟩
    · simp only [Gh.back]
      by_cases hn : base ≤ i ∧ i < base + (hs'.length - σ.length)
      · rw [(hnew i hn).1] at hm; cases hm
      · rw [if_neg hn]; exact hm
    · rcases hF.In b hb with (hb | ⟨k, k1, k2, k3⟩) | hb | hb
      · exact .inl hb
      · exact .inr (.inl ⟨k, by simp [k1], k2, k3⟩)
      · exact .inr (.inl (own_tch b hb))
      · exact .inr (.inr hb)
    · simp only [Gh.back]; rw [if_neg (show ¬ (base ≤ i ∧ i < base + (hs'.length - σ.length)) from hi)]; exact hn
    · have : i ∉ σ := fun hm => hi (by simp [hm])
      simp only [Gh.back, pos_none this]
      rw [if_neg (show ¬ (base ≤ i ∧ i < base + (hs'.length - σ.length)) from hn)]
    · obtain ⟨j, j1, j2, rfl, j3⟩ := key i hi hlv
      rw [hfp j j1] at hb
      rcases hF.own b ⟨j, j2, hb⟩ with h | h
      · exact .inl (own_tch b h)
      · exact .inr h
  refine ⟨?_, hg, hμ⟩
  rw [hids, hnwl] at hg
  refine hR.step hg (fun i hi hn => ?_) (fun i hi => by rw [(hnew i hi).2]; rfl) (fun i hi hlv => ?_) (fun i i' b hi hi' hlv hlv' hb hb' => ?_) (fun i b hi hlv hb hI => ?_) (fun b hb => hR'.lt b hb)
  · rw [happ]
    have h1 : i ∉ σ := fun hm => hi (by simp [hm])
    have h2 : i ∉ τ := fun hm => hi (by simp [hm])
    simp only [pos_none h1]
    rw [if_neg h2, if_neg (show ¬ (base ≤ i ∧ i < base + (hs'.length - σ.length)) from hn)]
  · obtain ⟨j, j1, j2, rfl, j3⟩ := key i hi hlv
    rw [j3]
    refine renO_ok (g := g') (g2 := g.back g' σ base (hs'.length - σ.length)) (fun b hb => hb) hμ (hfp j j1) (hR'.objs j j2) ?_
    have hm : hx hs' j ∈ hs' := by simp only [hx, List.getD_eq_getElem?_getD, List.getElem?_eq_getElem j1]; exact List.getElem_mem _
    exact List.all_eq_true.1 hok _ hm
  · obtain ⟨j, j1, j2, rfl, j3⟩ := key i hi hlv
    obtain ⟨k, k1, k2, rfl, k3⟩ := key i' hi' hlv'
    rw [hfp j j1] at hb
    rw [hfp k k1] at hb'
    rw [hR'.disj j k b j2 k2 hb hb']
  · obtain ⟨j, j1, j2, rfl, j3⟩ := key i hi hlv
    rw [hfp j j1] at hb
    exact hR'.imm j b j2 hb hI
end

section
variable {P : Program} {N : Nat} {o : Oper} {ρ : Env} {ts : List Nat} {hl : List Ob}
/-- The operation is a call of function f; these are the arguments' values. -/
def CallOf (P : Program) (o : Oper) (ρ : Env) (ts : List Nat) (f : FuncId) (avs : List V) : Prop :=
  ∀ (a : Act) (w : World) (g : Gh), EnvOn w g a ρ ts → (∃ fn, P.funcs[f]? = some fn ∧ fn.body.isSome = true ∧ fn.name ≠ "runtime.NumGoroutine") → ∃ args : Array Value, args.size = avs.length ∧ (∀ (j : Nat) v x, args[j]? = some v → avs[j]? = some x → RV w g v x) ∧ (execOp a.eval o).run P w = .ok (.enter f args) w
theorem run_callFunc {f : FuncId} (hf : ∃ fn, P.funcs[f]? = some fn ∧ fn.body.isSome = true ∧ fn.name ≠ "runtime.NumGoroutine") (args : Array Value) (w : World) : (callFunc f args).run P w = .ok (.enter f args) w := by
  obtain ⟨fn, h1, h2, h3⟩ := hf
  cases hb : fn.body with
  | none => rw [hb] at h2; cases h2
  | some c => simp [callFunc, h1, h3, hb]
theorem callOf_fn {c : Call} {f : FuncId} {axs : List AX} {avs : List V} (ho : o.op = .call c) (hc : c.callee = .value (.func f)) (h1 : listM trX c.args.toList = some axs) (t1 : ∀ y ∈ axs, ∀ t ∈ y.ts, t ∈ ts) (h2 : evs ρ axs = some avs) : CallOf P o ρ ts f avs := by
  intro a w g he hf
  obtain ⟨i1, i2⟩ := evs_ok h1 he t1 h2
  refine ⟨c.args.map a.eval, by simpa using i1.symm, fun j v x hv hx => ?_, ?_⟩
  · obtain ⟨y, y1, y2⟩ := i2 j x hx
    have : c.args[j]? = some y := by simpa using y1
    rw [Array.getElem?_map, this] at hv
    cases hv
    exact y2
  · have hev : a.eval (.func f) = .func (.func f) #[] #[] := rfl
    simp [execOp, ho, resolve, hc, hev, Deferred.ofValue, invoke, run_callFunc hf]
theorem callOf_val {c : Call} {x : Operand} {ax : AX} {f : FuncId} {cs : List C} {axs : List AX} {avs : List V} (ho : o.op = .call c) (hc : c.callee = .value x) (hx : trX x = some ax) (tx : ∀ t ∈ ax.ts, t ∈ ts) (hv : ev ρ ax = some (vC (.fn f cs))) (h1 : listM trX c.args.toList = some axs) (t1 : ∀ y ∈ axs, ∀ t ∈ y.ts, t ∈ ts)
    (h2 : evs ρ axs = some avs) : CallOf P o ρ ts f (avs ++ cs.map vC) := by
  intro a w g he hf
  obtain ⟨i1, i2⟩ := evs_ok h1 he t1 h2
  have r1 := rv_c (ev_ok hx he tx hv)
  generalize hxv : a.eval x = u at *
  cases r1 with
  | fn _ caps _ hs hc' =>
    have hl1 : (c.args.map a.eval).size = avs.length := by simpa using i1.symm
    refine ⟨c.args.map a.eval ++ caps, by simp [hs, i1], fun j v x hv hx => ?_, ?_⟩
    · by_cases hj : j < avs.length
      · rw [List.getElem?_append_left hj] at hx
        rw [Array.getElem?_append_left (by omega)] at hv
        obtain ⟨y, y1, y2⟩ := i2 j x hx
        have : c.args[j]? = some y := by simpa using y1
        rw [Array.getElem?_map, this] at hv
        cases hv
        exact y2
      · rw [List.getElem?_append_right (by omega)] at hx
        rw [Array.getElem?_append_right (by omega), hl1] at hv
        rw [List.getElem?_map] at hx
        cases hcj : cs[j - avs.length]? with
        | none => simp [hcj] at hx
        | some c0 => simp [hcj] at hx; subst hx; exact .e (.c (hc' _ _ _ hv hcj))
    · simp [execOp, ho, resolve, hc, hxv, Deferred.ofValue, invoke, run_callFunc hf]
theorem s_call {f : FuncId} {avs vs : List V} {σ τ : List Nat} {hs hs' : List Ob} {r : V} (hcall : CallOf P o ρ ts f avs) (hbv : listM (V.bk σ τ hl) avs = some vs) (hvw : ∀ v ∈ avs, v.Vw σ τ hl) (hbo : listM (Ob.bk σ hl) (σ.map (hx hl)) = some hs) (hfn : FnOk P f vs hs r hs')
    (hnd : (σ ++ τ).Nodup) (hlt : (σ ++ τ).all (fun i => decide (i < hl.length)) = true) (hok : hs'.all Ob.ok = true) (hrok : r.ok = true) : OpR P N o ρ ts hl (callRes σ τ hl.length r hs') := by
  intro a w g h hN hrd hnew hR he
  obtain ⟨args, a1, a2, a3⟩ := hcall a w g he hfn.1
  have hnds := List.nodup_append.1 hnd
  have hlt' : ∀ i ∈ σ ++ τ, i < hl.length := fun i hi => by simpa using List.all_eq_true.1 hlt i hi
  have ht : ∀ i ∈ τ, h i = hx hl i := fun i hi => hrd i (.inl (by simp [callRes, hi]))
  have hσ : ∀ i ∈ σ, h i = hx hl i := fun i hi => hrd i (.inl (by simp [callRes, hi]))
  have hsub : Rl w (g.sub h σ τ) (hx hs) := hR.sub ht hσ hnds.1 (fun i hi hj => hnds.2.2 i hi i hj rfl) hbo
  obtain ⟨k1, k2⟩ := listM_ok hbv
  have hlen : hs.length = σ.length := by rw [← (listM_ok hbo).1]; simp
  have hc := hfn.2 w (g.sub h σ τ) args hsub (fun i hi => by simp [Gh.sub, List.getElem?_eq_none (show σ.length ≤ i by omega)]) (by rw [a1, k1]) (fun j v x hv hx => by
    obtain ⟨b, b1, b2⟩ := k2 j x hx
    exact bkV_ok hR ht (a2 j v b hv b1) (hvw b (List.mem_of_getElem? b1)) b2)
  unfold Oper.wp
  rw [a3, Oper.upon_enter]
  refine hc.mono fun e w' hpost => ?_
  obtain ⟨v, g', rfl, p1, p2, p3⟩ := hpost
  have hnwl : (callRes σ τ hl.length r hs').nw.length = hs'.length - σ.length := by simp [callRes]
  rw [hnwl] at hnew
  obtain ⟨q1, q2, q3⟩ := call_ok (r := r) hR ht hσ hnds.1 (fun i hi => hlt' i (by simp [hi])) hbo p2 p3 hok hnew (fun i hi => hlt' i (by simp [hi]))
  exact ⟨v, g.back g' σ hl.length (hs'.length - σ.length), rfl, renV_ok (g := g') (g2 := g.back g' σ hl.length (hs'.length - σ.length)) (fun b hb => hb) q3 p1 hrok, q1, q2⟩
/-- A value that leads nowhere. -/
def C.plain : C → Bool
  | .t (.int _ _) => true
  | .t (.bool _) => true
  | .t (.str _) => true
  | .nilp => true
  | _ => false
def E.plain : E → Bool
  | .c x => x.plain
  | .agg cs => cs.all C.plain
def V.plain : V → Bool
  | .e x => x.plain
  | .tup es => es.all E.plain
  | .u => true
theorem plainC {w w' : World} {g g' : Gh} {v : Value} {c : C} (h : RC w g v c) (hp : c.plain = true) : RC w' g' v c := by
  cases h with
  | t h => cases h <;> first | exact .t (.int _ _) | exact .t (.bool _) | exact .t (.str _) | cases hp
  | nilp => exact .nilp
  | _ => cases hp
theorem plainE {w w' : World} {g g' : Gh} {v : Value} {c : E} (h : RE w g v c) (hp : c.plain = true) : RE w' g' v c := by
  cases h with
  | c h => exact .c (plainC h hp)
  | agg arr cs hs h =>
    refine .agg arr cs hs fun j c hj => ?_
    obtain ⟨u, u1, u2⟩ := h j c hj
    exact ⟨u, u1, plainC u2 (List.all_eq_true.1 hp c (List.mem_of_getElem? hj))⟩
theorem plainV {w w' : World} {g g' : Gh} {v : Value} {c : V} (h : RV w g v c) (hp : c.plain = true) : RV w' g' v c := by
  cases h with
  | e h => exact .e (plainE h hp)
  | tup arr cs hs h =>
    refine .tup arr cs hs fun j c hj => ?_
    obtain ⟨u, u1, u2⟩ := h j c hj
    exact ⟨u, u1, plainE u2 (List.all_eq_true.1 hp c (List.mem_of_getElem? hj))⟩
  | u => exact .u
/-- A call whose result leads nowhere: what it is lent stays. -/
theorem s_lend {f : FuncId} {avs vs : List V} {τ : List Nat} {r : V} (hcall : CallOf P o ρ ts f avs) (hbv : listM (V.bk [] τ hl) avs = some vs) (hvw : ∀ v ∈ avs, v.Vw [] τ hl) (hfn : FnOk P f vs [] r []) (hp : r.plain = true) : OpR P N o ρ ts hl { v := r, rd := τ } := by
  intro a w g h hN hrd hnew hR he
  obtain ⟨args, a1, a2, a3⟩ := hcall a w g he hfn.1
  have ht : ∀ i ∈ τ, h i = hx hl i := fun i hi => hrd i (.inl hi)
  have hsub : Rl w (g.sub h [] τ) (hx []) := hR.sub ht (fun i hi => by cases hi) List.nodup_nil (fun i hi => by cases hi) rfl
  obtain ⟨k1, k2⟩ := listM_ok hbv
  have hc := hfn.2 w (g.sub h [] τ) args hsub (fun i hi => by simp [Gh.sub]) (by rw [a1, k1]) (fun j v x hv hx => by
    obtain ⟨b, b1, b2⟩ := k2 j x hx
    exact bkV_ok hR ht (a2 j v b hv b1) (hvw b (List.mem_of_getElem? b1)) b2)
  unfold Oper.wp
  rw [a3, Oper.upon_enter]
  refine hc.mono fun e w' hpost => ?_
  obtain ⟨v, g', rfl, p1, p2, p3⟩ := hpost
  have hk : Keeps Nope w w' := p3.keeps.mono fun b _ hb => by
    obtain ⟨i, hi, _⟩ := hb
    have := hx_live hi
    simp at this
  have hgo : Go1 w g h [] hl.length 0 w' g h := ⟨hk.mono (fun _ _ f => f.elim), Gm.refl g, fun b hb => .inl hb, fun _ _ hn => hn, fun _ _ _ => rfl, fun i b hi => by simp [isNew] at hi; omega⟩
  refine ⟨v, g, rfl, plainV p1 hp, ?_, ?_⟩
  · rw [app_none rfl rfl]
    exact hR.step hgo (fun _ _ _ => rfl) (fun i hi => by simp [isNew] at hi; omega) (fun i hi => by simp [isNew] at hi; omega) (fun i j c hi => by simp [isNew] at hi; omega) (fun i c hi => by simp [isNew] at hi; omega) (fun b hb => Nat.lt_of_lt_of_le (hR.lt b hb) hk.size)
  · rw [app_none rfl rfl]
    exact hgo
end
end Go.Proofs.Ytheaeddojcebjaa
