/-
  Rules for use, shorter: functions, regions as a whole, ends, joins, loops. Short words for functions that are written out.
-/
import Derived.Test.YtheaeddojcebjaaK21
set_option linter.unusedVariables false
set_option linter.unusedSimpArgs false
namespace Go.Proofs.Ytheaeddojcebjaa
open Go.RowKit

def fEnv {β : Type} : Nat → List V → (Env → β) → β
  | _, [], k => k []
  | n, v :: l, k => fN n fun m => fEnv (n + 1) l fun r => k ((m, v) :: r)
theorem fEnv_eq {β : Type} : ∀ (n : Nat) (l : List V) (k : Env → β), fEnv n l k = k (env0 n l)
  | _, [], k => rfl
  | n, v :: l, k => by unfold fEnv; rw [fN_eq, fEnv_eq (n + 1) l]; rfl
/-- The end of a function that gives r and leaves the objects hs. -/
def RetQ (res : List AR) (n0 : Nat) (r : V) (hs : List Ob) (ex : Exit) (ρ : Env) (hl : List Ob) : Prop := (ex = .normal ∨ ex = .ret) ∧ ∃ r0 hs0, Fin res n0 ρ hl r0 hs0 ∧ V.le r0 r ∧ LeOs hs0 hs
theorem FnOk.start {P : Program} {f : FuncId} {np N n0 : Nat} {body : AC} {res : List AR} {vs : List V} {ρ : Env} {hs hs' : List Ob} {r : V} (hf : FnAt P f ⟨np, N, body, res⟩) (hlen : vs.length = np) (hn : fN hs.length some = some n0) (hρ : fEnv 0 vs some = some ρ)
    (h : Tri P N n0 body ρ hs (RetQ res n0 r hs')) : FnOk P f vs hs r hs' := by
  obtain ⟨fn, h1, h2, h3⟩ := hf
  rw [fEnv_eq] at hρ
  rw [fN_eq] at hn
  cases hρ
  cases hn
  exact FnOk.intro h1 h2 (by intro h; rw [h] at h3; simp at h3) hlen h
def ndB : List Nat → Bool
  | [] => true
  | x :: l => !(l.any fun y => Nat.beq x y) && ndB l
theorem ndB_ok : ∀ {l : List Nat}, ndB l = true → l.Nodup
  | [], _ => List.nodup_nil
  | x :: l, h => by
    unfold ndB at h
    simp only [Bool.and_eq_true, Bool.not_eq_true', List.any_eq_false] at h
    refine List.nodup_cons.2 ⟨fun hx => ?_, ndB_ok h.2⟩
    have := h.1 x hx
    simp at this
def eqLB : List Nat → List Nat → Bool
  | [], [] => true
  | x :: l, y :: m => Nat.beq x y && eqLB l m
  | _, _ => false
theorem eqLB_ok : ∀ {l m : List Nat}, eqLB l m = true → l = m
  | [], [], _ => rfl
  | x :: l, y :: m, h => by
    unfold eqLB at h
    simp only [Bool.and_eq_true] at h
    rw [Nat.eq_of_beq_eq_true h.1, eqLB_ok h.2]
  | [], _ :: _, h => by cases h
  | _ :: _, [], h => by cases h
def finR (res : List AR) (σ τ : List Nat) (n0 : Nat) (ρ : Env) (hl : List Ob) : Option (Prop × V × List Ob) :=
  match arEs ρ hl res with
  | some (p, es) => match (oneV es).bk σ τ hl, listM (Ob.bk σ hl) (σ.map (hx hl)) with
    | some r, some hs => match ndB (σ ++ τ) && eqLB (σ.take n0) (List.range n0) with
      | true => (oneV es).vw σ τ hl p fun p => fV r fun r => fOs hs fun hs => some (p, r, hs)
      | false => none
    | _, _ => none
  | none => none
section
variable {P : Program} {N n0 : Nat} {ρ ρ' : Env} {hl hl' : List Ob} {Q : Exit → Env → List Ob → Prop} {res : List AR} {r : V} {hs : List Ob}
theorem Fin.of (σ τ : List Nat) {p : Prop} {r' : V} {hs' : List Ob} (h : finR res σ τ n0 ρ hl = some (p, r', hs')) (hp : p) (hr : r' = r) (hh : hs' = hs) : Fin res n0 ρ hl r hs := by
  unfold finR at h
  split at h
  · rename_i p' es h1
    split at h
    · rename_i r0 hs0 h2 h3
      split at h
      · rename_i h4
        rw [vwV_k] at h
        simp only [fV_eq, fOs_eq] at h
        simp only [Bool.and_eq_true] at h4
        cases h
        subst hr hh
        obtain ⟨hv, hp⟩ := vwV_ok _ _ hp
        exact ⟨σ, τ, _, es, h1, hp, hv, h2, h3, ndB_ok h4.1, eqLB_ok h4.2⟩
      · cases h
    · cases h
  · cases h
theorem RetQ.of (σ τ : List Nat) {p : Prop} {r' : V} {hs' : List Ob} (h : finR res σ τ n0 ρ hl = some (p, r', hs')) (hp : p) (hr : V.le r' r) (hh : hs' = hs) : RetQ res n0 r hs .ret ρ hl :=
  ⟨.inr rfl, r', hs', Fin.of σ τ h hp rfl rfl, hr, .of hh⟩
theorem RetQ.le (σ τ : List Nat) {p : Prop} {r' : V} {hs' : List Ob} (h : finR res σ τ n0 ρ hl = some (p, r', hs')) (hp : p) (hr : V.le r' r) (hh : LeOs hs' hs) : RetQ res n0 r hs .ret ρ hl :=
  ⟨.inr rfl, r', hs', Fin.of σ τ h hp rfl rfl, hr, hh⟩
theorem Tri.retn (σ τ : List Nat) {p : Prop} {r' : V} {hs' : List Ob} (h : finR res σ τ n0 ρ hl = some (p, r', hs')) (hp : p) (hr : V.le r' r) (hh : LeOs hs' hs) : Tri P N n0 .ret ρ hl (RetQ res n0 r hs) :=
  Tri.ret ⟨.inr rfl, r', hs', Fin.of σ τ h hp rfl rfl, hr, hh⟩
def ordU (up : Option (List (List Nat))) (fs : List Ft) : Bool := match up with
  | none => true
  | some u => ordB u fs
theorem Rg.last {l : List AO} {fs : List Ft} {K : Env → List Ob → List Ft → Prop} {p : Prop} {fs' : List Ft} (h : runR true 400 l ρ hl fs (fun q => q) = some ⟨p, [], ρ', hl', fs'⟩) (hp : p) (hk : K ρ' hl' fs') : Rg P N l ρ hl fs K := Rg.run 400 h hp hk
/-- A region as a whole. -/
theorem Tri.one {l : List AO} {up : Option (List (List Nat))} {p : Prop} {fs' : List Ft} (h : runR true 400 l ρ hl [] (fun q => q) = some ⟨p, [], ρ', hl', fs'⟩) (hu : ordU up fs' = true) (hp : p) (hk : Q .normal ρ' hl') : Tri P N n0 (.region l up) ρ hl Q :=
  Tri.region (Rg.last h hp ⟨fun u he => by subst he; exact hu, hk⟩)
theorem Tri.sr {l : List AO} {up : Option (List (List Nat))} {y : AC} {p : Prop} {fs' : List Ft} (h : runR true 400 l ρ hl [] (fun q => q) = some ⟨p, [], ρ', hl', fs'⟩) (hu : ordU up fs' = true) (hp : p) (hk : Tri P N n0 y ρ' hl' Q) : Tri P N n0 (.seq (.region l up) y) ρ hl Q :=
  Tri.seq (Tri.one h hu hp hk)
/-- A region, step by step. -/
theorem Tri.sg {l : List AO} {up : Option (List (List Nat))} {y : AC} (h : Rg P N l ρ hl [] (fun ρ' hl' fs => ordU up fs = true ∧ Tri P N n0 y ρ' hl' Q)) : Tri P N n0 (.seq (.region l up) y) ρ hl Q :=
  Tri.seq (Tri.region (Rg.mono' h fun ρ' hl' fs ⟨h1, h2⟩ => ⟨fun u he => by subst he; exact h1, h2⟩))
theorem Tri.gs {l : List AO} {up : Option (List (List Nat))} (h : Rg P N l ρ hl [] (fun ρ' hl' fs => ordU up fs = true ∧ Q .normal ρ' hl')) : Tri P N n0 (.region l up) ρ hl Q :=
  Tri.region (Rg.mono' h fun ρ' hl' fs ⟨h1, h2⟩ => ⟨fun u he => by subst he; exact h1, h2⟩)
/-- Where two roads meet. -/
theorem Tri.mid {x y : AC} (R : Env → List Ob → Prop) (h : Tri P N n0 x ρ hl (thenQ R Q)) (k : ∀ ρ' hl', R ρ' hl' → Tri P N n0 y ρ' hl' Q) : Tri P N n0 (.seq x y) ρ hl Q :=
  Tri.seq (Tri.mono h fun ex ρ' hl' hq => by cases ex <;> first | exact k _ _ hq | exact hq)
/-- What the temporaries of a list hold, nothing else. -/
def Is (live : List Nat) (ρ' : Env) (ρ : Env) : Prop := keepE ρ live = some ρ'
theorem Tri.is {c : AC} {live : List Nat} (hk : Is live ρ' ρ) (h : Tri P N n0 c ρ' hl Q) : Tri P N n0 c ρ hl Q := Tri.keep live hk h
end
end Go.Proofs.Ytheaeddojcebjaa
