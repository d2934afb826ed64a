/-
  Parse of a request, the program's.
-/
import Derived.Test.YtheaeddojcebjaaM8
set_option maxRecDepth 100000
set_option maxHeartbeats 4000000
set_option linter.unusedVariables false
set_option linter.unusedSimpArgs false
namespace Go.Proofs.Ytheaeddojcebjaa
open Go.RowKit

theorem fields_ok {fn : Int} (hk : known fn = true) {xs : List Int} (hb : Byt xs) (hl : xs.length ≤ 1000) : FieldsOk fn xs := by
  have h := of_decide_eq_true hk
  rcases h with rfl | rfl | rfl | rfl | rfl | rfl | rfl | rfl | rfl | rfl | rfl
  · exact fieldsR (.inl rfl) hb hl
  · exact fieldsR (.inr (.inl rfl)) hb hl
  · exact fieldsR (.inr (.inr (.inl rfl))) hb hl
  · exact fieldsR (.inr (.inr (.inr rfl))) hb hl
  · exact fields5 hb hl
  · exact fields6 hb hl
  · exact fields15 hb hl
  · exact fields16 hb hl
  · exact fields22 hb hl
  · exact fields23 hb hl
  · exact fields43 hb hl
/-- What bytes are as a request, and what is wrong with them. -/
def pAsk (b : List Int) : Ask × Int :=
  if b.length = 0 ∨ 253 < b.length then ({}, 1)
  else if known (b.getD 0 0) = false then ({ fn := b.getD 0 0 }, 1)
  else if b.getD 0 0 = 43 ∧ b.length < 2 then ({ fn := b.getD 0 0 }, 3)
  else if b.getD 0 0 = 43 ∧ b.getD 1 0 ≠ 14 then ({ fn := b.getD 0 0 }, 1)
  else if askOk (b.getD 0 0) (b.drop 1) && (askOf (b.getD 0 0) (b.drop 1)).right then (askOf (b.getD 0 0) (b.drop 1), 0)
  else ({ fn := b.getD 0 0 }, 3)
abbrev askR (r : Ask × Int) : V := .tup [.agg r.1.cs, .c (.t (.int .i64 r.2))]
theorem leAsk0 {fn : Int} {k : Int} : V.le (.tup [.agg [.t (.int .i64 fn), .t (.int .i64 0), .t (.int .i64 0), .t (.int .u16 0), .t (.int .u16 0), .t (.int .u16 0), .t .nil, .t .nil, .t (.int .i64 0), .t (.int .i64 0), .t (.int .i64 0), .t (.int .i64 0)], .c (.t (.int .i64 k))]) (askR ({ fn := fn }, k)) := by
  refine .tup (.cons (.agg ?_) (.cons (.refl _) .nil))
  repeat (first | exact LeCs.nil | refine LeCs.cons (.refl _) ?_ | refine LeCs.cons leF ?_ | refine LeCs.cons leI ?_)
theorem askParse_ok {b : List Int} (hb : Byt b) (hl : b.length ≤ 1000000) : FnOk Try.prog 34 [vBy b] [] (askR (pAsk b)) [] := by
  by_cases h0 : b.length = 0
  · have : b = [] := List.eq_nil_of_length_eq_zero h0
    subst this
    exact FnOk.go t34 [] [] [] rfl rfl rfl rfl rfl rfl rfl (by simp) (by simp) leAsk0
  by_cases h1 : 253 < b.length
  · have e : pAsk b = ({}, 1) := if_pos (.inr h1)
    rw [e]
    exact FnOk.go t34 [.b 10 false, .b 14 true] [] [] rfl rfl rfl rfl rfl rfl rfl ⟨by rw [beq_eq_false_iff_ne]; omega, decide_eq_true (by omega), trivial⟩ (by simp) leAsk0
  have hx := at_byt hb 0
  have hk := kKnown_ok (b.getD 0 0)
  cases hK : known (b.getD 0 0) with
  | false =>
    have e : pAsk b = ({ fn := b.getD 0 0 }, 1) := by unfold pAsk; rw [if_neg (by omega), if_pos hK]
    rw [e]
    rw [hK] at hk
    refine FnOk.go t34 [.b 10 false, .b 14 false, .at [.int .u8 (b.getD 0 0)], .lend [] (vB false)] [] [] rfl rfl rfl rfl rfl rfl rfl ?_ (by simp) leAsk0
    simp only [true_and, and_true]
    exact ⟨by rw [beq_eq_false_iff_ne]; omega, decide_eq_false (by omega), ⟨by omega, rI_get (by omega)⟩, by omega, hk⟩
  | true =>
    rw [hK] at hk
    have p0 : ((b.length : Int) == 0) = false := by rw [beq_eq_false_iff_ne]; omega
    have p1 : decide ((253 : Int) < b.length) = false := decide_eq_false (by omega)
    have p2 : (0 ≤ (0 : Int) ∧ (0 : Int) < b.length) ∧ 1 = 1 ∧ (rI .u8 b)[(0 : Int).toNat]? = some [.int .u8 (b.getD 0 0)] := ⟨by omega, rfl, rI_get (by omega)⟩
    by_cases h43 : b.getD 0 0 = 43
    · by_cases h2 : b.length < 2
      · have e : pAsk b = ({ fn := b.getD 0 0 }, 3) := by unfold pAsk; rw [if_neg (by omega), if_neg (by rw [hK]; decide), if_pos ⟨h43, h2⟩]
        rw [e]
        exact FnOk.go t34 [.b 10 false, .b 14 false, .at [.int .u8 (b.getD 0 0)], .lend [] (vB true), .b 31 true, .b 27 true] [] [] rfl rfl rfl rfl rfl rfl rfl ⟨p0, p1, p2, by omega, trivial, hk, by rw [beq_iff_eq]; exact h43, decide_eq_true (by omega), trivial⟩ (by simp) leAsk0
      · by_cases h14 : b.getD 1 0 = 14
        · have hb' : Byt (b.drop 1) := fun x hx => hb x (List.mem_of_mem_drop hx)
          obtain ⟨a, ys, bad, hfit, hgood, hof, hfn⟩ := fields_ok hK hb' (by simp; omega)
          have hr := askRight_ok hfit
          have hc : [Ob.box [.t (.ls 1 (b.length - 1) (((rI .u8 b).drop 1).take (b.length - 1))), .t (.bool false)]] = [cur (b.drop 1) false] := cur_drop (n := 1) (by omega)
          have hfn' := hfn.cast (vs' := [vC (.ptr 0 0), vI .i64 (b.getD 0 0)]) rfl hc
          have e : pAsk b = if askOk (b.getD 0 0) (b.drop 1) && (askOf (b.getD 0 0) (b.drop 1)).right then (askOf (b.getD 0 0) (b.drop 1), 0) else ({ fn := b.getD 0 0 }, 3) := by
            unfold pAsk; rw [if_neg (by omega), if_neg (by rw [hK]; decide), if_neg (by omega), if_neg (by omega)]
          have q43 : (b.getD 0 0 == 43) = true := by rw [beq_iff_eq]; exact h43
          have q14 : (b.getD 1 0 != 14) = false := by rw [bne_eq_false_iff_eq]; exact h14
          cases bad with
          | true =>
            have hno : askOk (b.getD 0 0) (b.drop 1) = false := by
              cases hq : askOk (b.getD 0 0) (b.drop 1) with
              | false => rfl
              | true => have := (hgood.2 hq).1; cases this
            rw [e, hno]
            refine FnOk.go t34 [.b 10 false, .b 14 false, .at [.int .u8 (b.getD 0 0)], .lend [] (vB true), .b 31 true, .b 27 false, .b 41 true, .at [.int .u8 (b.getD 1 0)], .b 37 false, .call [2] [] a.v [cur ys true]] [] [] rfl rfl rfl rfl rfl rfl rfl ?_ (by simp) leAsk0
            exact ⟨p0, p1, p2, by omega, trivial, hk, q43, decide_eq_false (by omega), q43, ⟨by omega, rfl, rI_get (by omega)⟩, q14, ⟨by simp, by simp <;> omega, by simp, rfl⟩, trivial, hfn', trivial⟩
          | false =>
            by_cases hy : ys = []
            · subst hy
              have hyes : askOk (b.getD 0 0) (b.drop 1) = true := hgood.1 ⟨rfl, rfl⟩
              have ha := hof hyes
              cases hR : a.right with
              | true =>
                rw [hR] at hr
                rw [e, hyes, ← ha, hR]
                refine FnOk.go t34 [.b 10 false, .b 14 false, .at [.int .u8 (b.getD 0 0)], .lend [] (vB true), .b 31 true, .b 27 false, .b 41 true, .at [.int .u8 (b.getD 1 0)], .b 37 false, .call [2] [] a.v [cur [] false], .b 68 false, .lend [] (vB true)] [] [] rfl rfl rfl rfl rfl rfl rfl ?_ (by simp) (.refl _)
                exact ⟨p0, p1, p2, by omega, trivial, hk, q43, decide_eq_false (by omega), q43, ⟨by omega, rfl, rI_get (by omega)⟩, q14, ⟨by simp, by simp <;> omega, by simp, rfl⟩, trivial, hfn', rfl, trivial, hr, trivial⟩
              | false =>
                rw [hR] at hr
                rw [e, hyes, ← ha, hR]
                refine FnOk.go t34 [.b 10 false, .b 14 false, .at [.int .u8 (b.getD 0 0)], .lend [] (vB true), .b 31 true, .b 27 false, .b 41 true, .at [.int .u8 (b.getD 1 0)], .b 37 false, .call [2] [] a.v [cur [] false], .b 68 false, .lend [] (vB false)] [] [] rfl rfl rfl rfl rfl rfl rfl ?_ (by simp) leAsk0
                exact ⟨p0, p1, p2, by omega, trivial, hk, q43, decide_eq_false (by omega), q43, ⟨by omega, rfl, rI_get (by omega)⟩, q14, ⟨by simp, by simp <;> omega, by simp, rfl⟩, trivial, hfn', rfl, trivial, hr, trivial⟩
            · have hno : askOk (b.getD 0 0) (b.drop 1) = false := by
                cases hq : askOk (b.getD 0 0) (b.drop 1) with
                | false => rfl
                | true => exact absurd (hgood.2 hq).2 hy
              have hlen : 0 < ys.length := List.length_pos_iff.2 hy
              rw [e, hno]
              refine FnOk.go t34 [.b 10 false, .b 14 false, .at [.int .u8 (b.getD 0 0)], .lend [] (vB true), .b 31 true, .b 27 false, .b 41 true, .at [.int .u8 (b.getD 1 0)], .b 37 false, .call [2] [] a.v [cur ys false], .b 68 true] [] [] rfl rfl rfl rfl rfl rfl rfl ?_ (by simp) leAsk0
              exact ⟨p0, p1, p2, by omega, trivial, hk, q43, decide_eq_false (by omega), q43, ⟨by omega, rfl, rI_get (by omega)⟩, q14, ⟨by simp, by simp <;> omega, by simp, rfl⟩, trivial, hfn', decide_eq_true (by omega), trivial⟩
        · have e : pAsk b = ({ fn := b.getD 0 0 }, 1) := by unfold pAsk; rw [if_neg (by omega), if_neg (by rw [hK]; decide), if_neg (by omega), if_pos ⟨h43, h14⟩]
          rw [e]
          exact FnOk.go t34 [.b 10 false, .b 14 false, .at [.int .u8 (b.getD 0 0)], .lend [] (vB true), .b 31 true, .b 27 false, .b 41 true, .at [.int .u8 (b.getD 1 0)], .b 37 true] [] [] rfl rfl rfl rfl rfl rfl rfl ⟨p0, p1, p2, by omega, trivial, hk, by rw [beq_iff_eq]; exact h43, decide_eq_false (by omega), by rw [beq_iff_eq]; exact h43, ⟨by omega, rfl, rI_get (by omega)⟩, by show (b.getD 1 0 != 14) = true; rw [bne_iff_ne]; exact h14, trivial⟩ (by simp) leAsk0
    · have hb' : Byt (b.drop 1) := fun x hx => hb x (List.mem_of_mem_drop hx)
      obtain ⟨a, ys, bad, hfit, hgood, hof, hfn⟩ := fields_ok hK hb' (by simp; omega)
      have hr := askRight_ok hfit
      have hc : [Ob.box [.t (.ls 1 (b.length - 1) (((rI .u8 b).drop 1).take (b.length - 1))), .t (.bool false)]] = [cur (b.drop 1) false] := cur_drop (n := 1) (by omega)
      have hfn' := hfn.cast (vs' := [vC (.ptr 0 0), vI .i64 (b.getD 0 0)]) rfl hc
      have e : pAsk b = if askOk (b.getD 0 0) (b.drop 1) && (askOf (b.getD 0 0) (b.drop 1)).right then (askOf (b.getD 0 0) (b.drop 1), 0) else ({ fn := b.getD 0 0 }, 3) := by
        unfold pAsk; rw [if_neg (by omega), if_neg (by rw [hK]; decide), if_neg (by omega), if_neg (by omega)]
      have n43 : (b.getD 0 0 == 43) = false := by rw [beq_eq_false_iff_ne]; exact h43
      cases bad with
      | true =>
        have hno : askOk (b.getD 0 0) (b.drop 1) = false := by
          cases hq : askOk (b.getD 0 0) (b.drop 1) with
          | false => rfl
          | true => have := (hgood.2 hq).1; cases this
        rw [e, hno]
        refine FnOk.go t34 [.b 10 false, .b 14 false, .at [.int .u8 (b.getD 0 0)], .lend [] (vB true), .b 31 false, .b 41 false, .call [2] [] a.v [cur ys true]] [] [] rfl rfl rfl rfl rfl rfl rfl ?_ (by simp) leAsk0
        exact ⟨p0, p1, p2, by omega, trivial, hk, n43, n43, ⟨by simp, by simp <;> omega, by simp, rfl⟩, trivial, hfn', trivial⟩
      | false =>
        by_cases hy : ys = []
        · subst hy
          have hyes : askOk (b.getD 0 0) (b.drop 1) = true := hgood.1 ⟨rfl, rfl⟩
          have ha := hof hyes
          cases hR : a.right with
          | true =>
            rw [hR] at hr
            rw [e, hyes, ← ha, hR]
            refine FnOk.go t34 [.b 10 false, .b 14 false, .at [.int .u8 (b.getD 0 0)], .lend [] (vB true), .b 31 false, .b 41 false, .call [2] [] a.v [cur [] false], .b 68 false, .lend [] (vB true)] [] [] rfl rfl rfl rfl rfl rfl rfl ?_ (by simp) (.refl _)
            exact ⟨p0, p1, p2, by omega, trivial, hk, n43, n43, ⟨by simp, by simp <;> omega, by simp, rfl⟩, trivial, hfn', rfl, trivial, hr, trivial⟩
          | false =>
            rw [hR] at hr
            rw [e, hyes, ← ha, hR]
            refine FnOk.go t34 [.b 10 false, .b 14 false, .at [.int .u8 (b.getD 0 0)], .lend [] (vB true), .b 31 false, .b 41 false, .call [2] [] a.v [cur [] false], .b 68 false, .lend [] (vB false)] [] [] rfl rfl rfl rfl rfl rfl rfl ?_ (by simp) leAsk0
            exact ⟨p0, p1, p2, by omega, trivial, hk, n43, n43, ⟨by simp, by simp <;> omega, by simp, rfl⟩, trivial, hfn', rfl, trivial, hr, trivial⟩
        · have hno : askOk (b.getD 0 0) (b.drop 1) = false := by
            cases hq : askOk (b.getD 0 0) (b.drop 1) with
            | false => rfl
            | true => exact absurd (hgood.2 hq).2 hy
          have hlen : 0 < ys.length := List.length_pos_iff.2 hy
          rw [e, hno]
          refine FnOk.go t34 [.b 10 false, .b 14 false, .at [.int .u8 (b.getD 0 0)], .lend [] (vB true), .b 31 false, .b 41 false, .call [2] [] a.v [cur ys false], .b 68 true] [] [] rfl rfl rfl rfl rfl rfl rfl ?_ (by simp) leAsk0
          exact ⟨p0, p1, p2, by omega, trivial, hk, n43, n43, ⟨by simp, by simp <;> omega, by simp, rfl⟩, trivial, hfn', decide_eq_true (by omega), trivial⟩
end Go.Proofs.Ytheaeddojcebjaa
