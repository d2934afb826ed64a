/-
  Small functions: places; numbers by their kinds.
-/
import Derived.Test.YthddlkhfkncgpaaGreatAf
import Derived.Test.YthddlkhfkncgpaaGreatKD
set_option maxRecDepth 100000
set_option linter.unusedVariables false
set_option linter.unusedSimpArgs false
namespace Go.Proofs.YthddlkhfkncgpaaGreat
open Go.RowKit

abbrev b64 (k : Int) : Prop := -9223372036854775808 ≤ k ∧ k ≤ 9223372036854775807
theorem tm (k n : Int) (hn : 0 < n) : -n < k.tmod n ∧ k.tmod n < n ∧ (k.tmod n < 0 → k.tmod n + n = k % n) ∧ (¬ k.tmod n < 0 → k.tmod n = k % n) := by
  have h1 := Int.tmod_eq_emod (a := k) (b := n)
  have h2 := Int.emod_nonneg k (by omega : n ≠ 0)
  have h3 := Int.emod_lt_of_pos k hn
  split at h1 <;> omega
theorem tdiv_b64 {k d : Int} (hk : b64 k) (hd : 0 < d) : b64 (k.tdiv d) := by
  have h := Int.natAbs_tdiv_le_natAbs k d
  rcases Int.lt_or_le k 0 with e | e
  · have h3 := Int.tdiv_nonneg (a := -k) (b := d) (by omega) (by omega)
    rw [Int.neg_tdiv] at h3
    constructor <;> omega
  · have h3 := Int.tdiv_nonneg e (by omega : 0 ≤ d)
    constructor <;> omega
theorem within_ok {k n : Int} (hk : b64 k) (hn : 0 < n ∧ n ≤ 9223372036854775807) : FnOk Tryz.prog 18 [vI .i64 k, vI .i64 n] [] (vI .i64 (k % n)) [] := by
  obtain ⟨h1, h2, h3, h4⟩ := tm k n hn.1
  by_cases h : k.tmod n < 0
  · exact FnOk.go t18 [.b 9 true] [] [] rfl rfl rfl rfl rfl rfl rfl (by simp <;> omega) trivial (.of (by rw [h3 h]))
  · exact FnOk.go t18 [.b 9 false] [] [] rfl rfl rfl rfl rfl rfl rfl (by simp <;> omega) trivial (.of (by rw [h4 h]))
def dig (k d n : Int) : Int := k.tdiv d % n
theorem digit_ok {k d n : Int} (hk : b64 k) (hd : 0 < d ∧ d ≤ 9223372036854775807) (hn : 0 < n ∧ n ≤ 9223372036854775807) : FnOk Tryz.prog 20 [vI .i64 k, vI .i64 d, vI .i64 n] [] (vI .i64 (dig k d n)) [] := by
  have hb : b64 (k.tdiv d) := tdiv_b64 hk hd.1
  refine FnOk.go t20 [.lend [] (vI .i64 (dig k d n))] [] [] rfl rfl rfl rfl rfl rfl rfl ⟨by omega, trivial, ?_, trivial⟩ trivial (.refl _)
  rw [IntWalk.i64_in _ hb]
  exact within_ok hb hn
theorem wu8 (n : Int) : IntKind.u8.wrap n = n % 256 := by simp [IntKind.wrap, IntKind.bits, IntKind.signed]
theorem wu16 (n : Int) : IntKind.u16.wrap n = n % 65536 := by simp [IntKind.wrap, IntKind.bits, IntKind.signed]
theorem wu64 (n : Int) : IntKind.u64.wrap n = n % 18446744073709551616 := by simp [IntKind.wrap, IntKind.bits, IntKind.signed]
theorem fdiv256 (n : Int) : n.fdiv 256 = n / 256 := Int.fdiv_eq_ediv_of_nonneg _ (by decide)
theorem fdiv8 (n : Int) : n.fdiv 8 = n / 8 := Int.fdiv_eq_ediv_of_nonneg _ (by decide)
/-- A list of data that is held against nil. -/
theorem OpN.eqNilL {P : Program} {N : Nat} {ρ : Env} {hl : List Ob} {neg : Bool} {x : AX} {sz n : Nat} {r : List (List D)} (h1 : ev ρ x = some (vD (.ls sz n r))) :
    OpN P N (.eqNil neg x) ρ hl fun s => ∃ b, s = { v := vB b } ∧ ((bif neg then !b else b) = true → n = 0) := by
  intro o ho a w g hN hμ hR he
  obtain ⟨t, e, x', u, hop, hu, hx'⟩ := trOp_tells ho
  have r1 := ev_ok hx' he (mem_xts (by simp [AOp.xs])) h1
  have hsl : ∃ A m c, a.eval x' = .slice A m c ∧ (A = none → n = 0) := by
    have := rv_d r1
    generalize a.eval x' = q at *
    cases this
    · exact ⟨_, _, _, rfl, fun _ => rfl⟩
    · exact ⟨_, _, _, rfl, fun h => by cases h⟩
  obtain ⟨A, m, c, hA, hnil⟩ := hsl
  have hrun0 : ∀ d, (Op.equalIn (d + 1) t (.slice A m c) (.slice none 0 0)).run P w = .ok A.isNone w := fun d => by
    cases A <;> simp [Op.equalIn, run_underlying hu]
  have hrun : (Op.equalIn 10000 t (.slice A m c) (.slice none 0 0)).run P w = .ok A.isNone w := hrun0 9999
  have hex : (execOp a.eval o).run P w = .ok (.value (.bool (bif neg then !A.isNone else A.isNone))) w := by
    simp only [execOp, hop, hA]
    refine run_v ?_
    cases neg
    · simp [eqGuard, binOp, Op.equal, Op.maxDepth, hrun, Act.eval]
    · simp [eqGuard, binOp, Op.equal, Op.maxDepth, hrun, Act.eval]
  unfold Oper.wp
  rw [hex]
  refine ⟨{ v := vB (bif neg then !A.isNone else A.isNone) }, _, g, ⟨_, rfl, fun h => hnil ?_⟩, fun i hi => by simp [Res.ids] at hi, rfl, .e (.c (.t (.bool _))), ?_, ?_⟩
  · cases neg <;> simpa using h
  · rw [app_none rfl rfl]; exact hR
  · rw [app_none rfl rfl]; exact Go1.refl _ _ _ _
/-- Of the objects less may be told. -/
theorem Tri.wkO {P : Program} {N n0 : Nat} {ρ : Env} {hl hl' : List Ob} {Q : Exit → Env → List Ob → Prop} {c : AC} (hle : LeOs hl hl') (h : Tri P N n0 c ρ hl' Q) : Tri P N n0 c ρ hl Q := by
  intro code hc w0 g0 h0 df a w ⟨h1, h2, h3, g, hR, hμ, he, hF⟩
  exact h code hc w0 g0 h0 df a w ⟨h1, h2, hle.len ▸ h3, g, hR.le hle.at, fun i hi => hμ i (by rw [hle.len]; exact hi), he, hF.keeps, hF.I, hF.In, hF.μ, fun b ⟨i, i1, i2⟩ => hF.own b ⟨i, (hle.at i).le_live.symm.trans i1, i2⟩⟩
abbrev tzC : List C := [.t (.int .i64 0), .t (.int .i64 0), .t .nil, .t .nil, .t (.int .i64 0), .t (.int .i64 0), .t (.int .u16 0), .t (.int .u16 0), .t (.int .u16 0), .t (.int .i64 0), .t (.int .i64 0), .t (.bool false), .t (.int .i64 0), .t .nil]
theorem digR (k d : Int) {n : Int} (h : 0 < n) : 0 ≤ dig k d n ∧ dig k d n < n := ⟨Int.emod_nonneg _ (by omega), Int.emod_lt_of_pos _ h⟩
end Go.Proofs.YthddlkhfkncgpaaGreat
