/-
  What aop says is so: operations on values.
-/
import Derived.Test.YtheaeddojcebjaaK4
set_option linter.unusedVariables false
set_option linter.unusedSimpArgs false
namespace Go.Proofs.Ytheaeddojcebjaa
open Go.RowKit

section
variable {P : Program} {N : Nat} {o : Oper} {ρ : Env} {ts : List Nat} {hl : List Ob} {p : Prop} {s : Res}

theorem rv_tup {w : World} {g : Gh} {v : Value} {es : List E} (h : RV w g v (.tup es)) : ∃ arr, v = .tuple arr ∧ arr.size = es.length ∧ ∀ (j : Nat) e, es[j]? = some e → ∃ u, arr[j]? = some u ∧ RE w g u e := by
  cases h with | tup arr es hs h => exact ⟨arr, rfl, hs, h⟩
theorem bin_ok {op : BinOp} {x y v : V} (h : bin op x y = some (p, v)) (hp : p) {w : World} {g : Gh} {a b : Value} (hx : RV w g a x) (hy : RV w g b y) (t : TypeId) :
    ∃ u, (binOp op t a b).run P w = .ok u w ∧ RV w g u v := by
  unfold bin at h
  split at h
  · rename_i k n k' m
    obtain rfl := rv_int hx
    obtain rfl := rv_int hy
    cases op
    case shl =>
      cases h
      exact ⟨_, by simp [binOp, Op.shift, show ¬ m < 0 by omega], rv_i _ _⟩
    case shr =>
      cases h
      exact ⟨_, by simp [binOp, Op.shift, show ¬ m < 0 by omega], rv_i _ _⟩
    all_goals
      simp only at h
      by_cases hk : k = k'
      · subst hk
        simp only [decide_true, cond_true] at h
        cases h
        first
          | refine ⟨_, ?_, rv_i _ _⟩
          | refine ⟨_, ?_, rv_b _⟩
        first
          | (simp only [binOp, ne_eq, not_true_eq_false, if_false, Op.intDiv]; rw [if_neg hp]; rfl)
          | (simp only [binOp, ne_eq, not_true_eq_false, if_false, Op.intArith]; rfl)
          | (simp only [binOp, ne_eq, not_true_eq_false, if_false, Op.intBits]; rfl)
          | (simp only [binOp, ne_eq, not_true_eq_false, if_false, Op.intCmp]; rfl)
      · simp only [hk, decide_false, cond_false] at h
        cases h
  · rename_i x y
    obtain rfl := rv_str hx
    obtain rfl := rv_str hy
    split at h
    · cases h
      refine ⟨_, ?_, rv_s _⟩
      have : ¬ ((x.size + y.size : Nat) : Int) > IntKind.i64.max := by simp [IntKind.max, IntKind.bits, IntKind.signed]; omega
      simp only [binOp, Op.stringOp]
      rw [if_neg this]
      rfl
    · cases h; exact ⟨_, by simp [binOp, Op.stringOp], rv_b _⟩
    · cases h; exact ⟨_, by simp [binOp, Op.stringOp], rv_b _⟩
    · cases h
  · cases h
theorem bin_noagg {op : BinOp} {x y v : V} (h : bin op x y = some (p, v)) {w : World} {g : Gh} {a b : Value} (hx : RV w g a x) (t : TypeId) (c d : Operand) : (eqGuard op t c d a b).run P w = .ok () w := by
  unfold bin at h
  split at h
  · obtain rfl := rv_int hx
    cases op <;> simp [eqGuard]
  · obtain rfl := rv_str hx
    cases op <;> simp [eqGuard]
  · cases h
theorem s_bin {op : BinOp} {t u : TypeId} {x y : Operand} {ax ay : AX} (ho : o.op = .binOp op t x y u) (h1 : trX x = some ax) (h2 : trX y = some ay) (t1 : ∀ t ∈ ax.ts, t ∈ ts) (t2 : ∀ t ∈ ay.ts, t ∈ ts)
    (h : aop (.bin op ax ay) ρ hl = some (p, s)) (hp : p) : OpR P N o ρ ts hl s := by
  simp only [aop] at h
  split at h
  · rename_i x' y' e1 e2
    split at h
    · rename_i q v hb
      cases h
      refine OpR.val rfl rfl fun a w g hh _ hR he => ?_
      have r1 := ev_ok h1 he t1 e1
      have r2 := ev_ok h2 he t2 e2
      obtain ⟨u', hu, hv⟩ := bin_ok (P := P) hb hp r1 r2 t
      refine ⟨u', ?_, hv⟩
      have := bin_noagg (P := P) (b := a.eval y) hb r1 t x y
      simp [execOp, ho, this, hu]
    · cases h
  · cases h
theorem s_binB {neg : Bool} {t u : TypeId} {x y : Operand} {ax ay : AX} (ho : o.op = .binOp (if neg then .neq else .eql) t x y u) (h1 : trX x = some ax) (h2 : trX y = some ay) (t1 : ∀ t ∈ ax.ts, t ∈ ts) (t2 : ∀ t ∈ ay.ts, t ∈ ts)
    (ht : P.underlying t = some .bool) (h : aop (.binB neg ax ay) ρ hl = some (p, s)) : OpR P N o ρ ts hl s := by
  simp only [aop] at h
  split at h
  · rename_i x' y' e1 e2
    obtain rfl := ret_v h
    refine OpR.val rfl rfl fun a w g hh _ hR he => ?_
    have r1 := rv_bool (ev_ok h1 he t1 e1)
    have r2 := rv_bool (ev_ok h2 he t2 e2)
    refine ⟨_, ?_, rv_b _⟩
    cases neg
    · have := run_eql_bool (P := P) w t x' y' ht
      simp [execOp, ho, r1, r2, this, eqGuard]
    · have := run_neq_bool (P := P) w t x' y' ht
      simp [execOp, ho, r1, r2, this, eqGuard]
  · cases h
theorem s_un {op : UnOp} {t : TypeId} {x : Operand} {ax : AX} (ho : o.op = .unOp op t x) (h1 : trX x = some ax) (t1 : ∀ t ∈ ax.ts, t ∈ ts) (h : aop (.un op ax) ρ hl = some (p, s)) : OpR P N o ρ ts hl s := by
  simp only [aop] at h
  split at h
  · rename_i b e1
    obtain rfl := ret_v h
    refine OpR.val rfl rfl fun a w g hh _ hR he => ?_
    have r1 := rv_bool (ev_ok h1 he t1 e1)
    exact ⟨_, by simp [execOp, ho, r1, Op.unary], rv_b _⟩
  · rename_i k n e1
    obtain rfl := ret_v h
    refine OpR.val rfl rfl fun a w g hh _ hR he => ?_
    have r1 := rv_int (ev_ok h1 he t1 e1)
    exact ⟨_, by simp [execOp, ho, r1, Op.unary, Op.intArith]; rfl, by simpa using rv_i _ _⟩
  · cases h
theorem s_conv {k : IntKind} {src dst : TypeId} {k0 : IntKind} {x : Operand} {ax : AX} (ho : o.op = .convert src dst x) (h1 : trX x = some ax) (t1 : ∀ t ∈ ax.ts, t ∈ ts)
    (hs : P.underlying src = some (.int k0)) (hd : P.underlying dst = some (.int k)) (h : aop (.conv k ax) ρ hl = some (p, s)) : OpR P N o ρ ts hl s := by
  simp only [aop] at h
  split at h
  · rename_i k1 n e1
    obtain rfl := ret_v h
    refine OpR.val rfl rfl fun a w g hh _ hR he => ?_
    have r1 := rv_int (ev_ok h1 he t1 e1)
    exact ⟨_, by simp [execOp, ho, r1, convert, run_underlying hs, run_underlying hd, Conv.intToInt], rv_i _ _⟩
  · cases h
theorem s_same {src dst : TypeId} {x : Operand} {ax : AX} (ho : o.op = .convert src dst x) (h1 : trX x = some ax) (t1 : ∀ t ∈ ax.ts, t ∈ ts)
    (hs : P.underlying src = some .string) (hd : P.underlying dst = some .string) (h : aop (.same ax) ρ hl = some (p, s)) : OpR P N o ρ ts hl s := by
  simp only [aop] at h
  split at h
  · rename_i k e1
    obtain rfl := ret_v h
    refine OpR.val rfl rfl fun a w g hh _ hR he => ?_
    have r1 := rv_str (ev_ok h1 he t1 e1)
    exact ⟨_, by simp [execOp, ho, r1, convert, run_underlying hs, run_underlying hd], rv_s _⟩
  · cases h
theorem s_extract {x : Operand} {ax : AX} {i : Nat} (ho : o.op = .extract x i) (h1 : trX x = some ax) (t1 : ∀ t ∈ ax.ts, t ∈ ts) (h : aop (.extract ax i) ρ hl = some (p, s)) : OpR P N o ρ ts hl s := by
  simp only [aop] at h
  split at h
  · rename_i es e1
    split at h
    · rename_i e hi
      obtain rfl := ret_v h
      refine OpR.val rfl rfl fun a w g hh _ hR he => ?_
      obtain ⟨arr, r1, _, hk⟩ := rv_tup (ev_ok h1 he t1 e1)
      obtain ⟨u, hu, hr⟩ := hk i e hi
      exact ⟨u, by simp [execOp, ho, r1, Instr.extract, hu], .e hr⟩
    · cases h
  · cases h
end
end Go.Proofs.Ytheaeddojcebjaa
