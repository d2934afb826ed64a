/-
  Parse of a reply, the program's.
-/
import Derived.Test.YtheaeddojcebjaaM38
set_option maxRecDepth 100000
set_option maxHeartbeats 4000000
set_option linter.unusedVariables false
set_option linter.unusedSimpArgs false
namespace Go.Proofs.Ytheaeddojcebjaa
open Go.RowKit

/-- What bytes are as a reply to a request of so many bits, and what is wrong with them. -/
def pTell (b : List Int) (n : Int) : Tell × Int :=
  if b.length = 2 ∧ 128 ≤ b.getD 0 0 ∧ failingB (b.getD 1 0) = true then ({ fn := b.getD 0 0 - 128, exc := b.getD 1 0 }, 0)
  else if b.length = 0 ∨ known (b.getD 0 0) = false then ({}, 2)
  else if tellOk (b.getD 0 0) n (b.drop 1) && (tellOf (b.getD 0 0) n (b.drop 1)).right then (tellOf (b.getD 0 0) n (b.drop 1), 0)
  else ({}, 2)
abbrev tellR (r : Tell × Int) : V := .tup [.agg r.1.cs, .c (.t (.int .i64 r.2))]
theorem leTell0 {fn e : Int} {k : Int} : V.le (.tup [.agg [.t (.int .i64 fn), .t (.int .i64 e), .t .nil, .t .nil, .t (.int .i64 0), .t (.int .i64 0), .t (.int .u16 0), .t (.int .u16 0), .t (.int .u16 0), .t (.int .i64 0), .t (.int .i64 0), .t (.bool false), .t (.int .i64 0), .t .nil], .c (.t (.int .i64 k))]) (tellR ({ fn := fn, exc := e }, k)) := by
  refine .tup (.cons (.agg ?_) (.cons (.refl _) .nil))
  repeat (first | exact LeCs.nil | refine LeCs.cons (.refl _) ?_ | refine LeCs.cons leF ?_ | refine LeCs.cons leI ?_ | refine LeCs.cons leOb ?_)
theorem fail_ok (fn e : Int) : FnOk Try.prog 63 [vI .i64 fn, vI .i64 e] [] (Tell.v { fn := fn, exc := e }) [] := by
  refine FnOk.go t63 [] [] [] rfl rfl rfl rfl rfl rfl rfl (by simp) (by simp) ?_
  refine .e (.agg ?_)
  repeat (first | exact LeCs.nil | refine LeCs.cons (.refl _) ?_ | refine LeCs.cons leF ?_ | refine LeCs.cons leI ?_ | refine LeCs.cons leOb ?_)
theorem and128 {x : Int} (h : 0 ≤ x ∧ x ≤ 255) : IntKind.u8.wrap (BitVec.ofInt IntKind.u8.bits x &&& BitVec.ofInt IntKind.u8.bits 128).toNat = if 128 ≤ x then 128 else 0 := by
  obtain ⟨n, rfl⟩ := Int.eq_ofNat_of_zero_le h.1
  have hn : n < 256 := by omega
  have : ∀ n : _root_.Fin 256, IntKind.u8.wrap (BitVec.ofInt IntKind.u8.bits (n.val : Int) &&& BitVec.ofInt IntKind.u8.bits 128).toNat = if 128 ≤ (n.val : Int) then 128 else 0 := by decide
  exact this ⟨n, hn⟩
theorem andNot128 {x : Int} (h : 0 ≤ x ∧ x ≤ 255) : IntKind.u8.wrap (BitVec.ofInt IntKind.u8.bits x &&& ~~~ BitVec.ofInt IntKind.u8.bits 128).toNat = x % 128 := by
  obtain ⟨n, rfl⟩ := Int.eq_ofNat_of_zero_le h.1
  have hn : n < 256 := by omega
  have : ∀ n : _root_.Fin 256, IntKind.u8.wrap (BitVec.ofInt IntKind.u8.bits (n.val : Int) &&& ~~~ BitVec.ofInt IntKind.u8.bits 128).toNat = (n.val : Int) % 128 := by decide
  exact this ⟨n, hn⟩
theorem known128 {n : Int} (h : 128 ≤ n) : known n = false := decide_eq_false (by omega)
theorem tellParse_ok {b : List Int} (hb : Byt b) (hl : b.length ≤ 1000) {n : Int} (hn : b64 n) : FnOk Try.prog 60 [vBy b, vI .i64 n] [] (tellR (pTell b n)) [] := by
  have hx := at_byt hb 0
  have hy := at_byt hb 1
  have ha := and128 hx
  have hk := kKnown_ok (b.getD 0 0)
  have he := exception_ok (b.getD 1 0)
  have p0 : 1 ≤ b.length → (0 ≤ (0 : Int) ∧ (0 : Int) < b.length) ∧ 1 = 1 ∧ (rI .u8 b)[(0 : Int).toNat]? = some [.int .u8 (b.getD 0 0)] := fun h => ⟨by omega, rfl, rI_get (by omega)⟩
  have p1 : 2 ≤ b.length → (0 ≤ (1 : Int) ∧ (1 : Int) < b.length) ∧ 1 = 1 ∧ (rI .u8 b)[(1 : Int).toNat]? = some [.int .u8 (b.getD 1 0)] := fun h => ⟨by omega, rfl, rI_get (by omega)⟩
  by_cases hE : b.length = 2 ∧ 128 ≤ b.getD 0 0 ∧ failingB (b.getD 1 0) = true
  · have e : pTell b n = ({ fn := b.getD 0 0 - 128, exc := b.getD 1 0 }, 0) := if_pos hE
    obtain ⟨h2, h128, hf⟩ := hE
    rw [e]
    rw [hf] at he
    rw [if_pos h128] at ha
    have hF := fail_ok (b.getD 0 0 % 128) (b.getD 1 0)
    have hm : b.getD 0 0 % 128 = b.getD 0 0 - 128 := by omega
    refine FnOk.tree t60 (.a (.b 11 true) (.a (.at [.int .u8 (b.getD 0 0)]) (.a (.b 18 true) (.a (.at [.int .u8 (b.getD 1 0)]) (.f [] he (.a (.at [.int .u8 (b.getD 0 0)]) (.a (.at [.int .u8 (b.getD 1 0)]) (.f [] hF .nil)))))))) rfl rfl rfl rfl ?_
    simp only [ha, andNot128 hx, hm]
    repeat' (first | exact p0 (by omega) | exact p1 (by omega) | exact rI_get (by omega) | omega | (simp [h2, leVs, leP, leE, leEs, leL, leC]; done) | apply And.intro)
  have e : pTell b n = if b.length = 0 ∨ known (b.getD 0 0) = false then ({}, 2) else if tellOk (b.getD 0 0) n (b.drop 1) && (tellOf (b.getD 0 0) n (b.drop 1)).right then (tellOf (b.getD 0 0) n (b.drop 1), 0) else ({}, 2) := if_neg hE
  rw [e]
  refine FnOk.start t60 rfl rfl rfl ?_
  refine Tri.seq (Tri.go [] rfl (by simp) ?_)
  refine Tri.mid (fun ρ hl => hl = [.box (t0cs 0)] ∧ keepE ρ [0, 1, 4, 5] = some [(0, vBy b), (1, vI .i64 n), (4, vC (.ptr 0 0)), (5, vI .i64 0)]) ?_ ?_
  · by_cases h2 : b.length = 2
    · by_cases h128 : 128 ≤ b.getD 0 0
      · have hf : failingB (b.getD 1 0) = false := by
          cases hh : failingB (b.getD 1 0) with
          | false => rfl
          | true => exact absurd ⟨h2, h128, hh⟩ hE
        rw [hf] at he
        rw [if_pos h128] at ha
        refine Tri.tree (.a (.b 11 true) (.a (.at [.int .u8 (b.getD 0 0)]) (.a (.b 18 true) (.a (.at [.int .u8 (b.getD 1 0)]) (.f [] he .nil))))) rfl ?_
        simp only [ha]
        repeat' (first | exact p0 (by omega) | exact p1 (by omega) | exact rI_get (by omega) | omega | exact ⟨rfl, keep_of rfl rfl⟩ | (simp [h2, leVs, leP, leE, leEs, leL, leC]; done) | apply And.intro)
      · rw [if_neg h128] at ha
        refine Tri.tree (.a (.b 11 true) (.a (.at [.int .u8 (b.getD 0 0)]) (.a (.b 18 false) .nil))) rfl ?_
        simp only [ha]
        repeat' (first | exact p0 (by omega) | exact p1 (by omega) | exact rI_get (by omega) | omega | exact ⟨rfl, keep_of rfl rfl⟩ | (simp [h2, leVs, leP, leE, leEs, leL, leC]; done) | apply And.intro)
    · refine Tri.tree (.a (.b 11 false) .nil) rfl ?_
      repeat' (first | omega | exact ⟨rfl, keep_of rfl rfl⟩ | (simp; omega) | apply And.intro)
  rintro ρ hl' ⟨rfl, hkk⟩
  refine Tri.keep _ hkk ?_
  by_cases h0 : b.length = 0
  · rw [if_pos (.inl h0)]
    refine Tri.treeR (.a (.b 38 true) .nil) rfl ?_
    repeat' (first | exact p0 (by omega) | exact rI_get (by omega) | omega | (rw [beq_eq_false_iff_ne]; omega) | (rw [beq_iff_eq]; omega) | (simp [leVs, leP, leE, leEs, leL, leC]; done) | apply And.intro)
  cases hK : known (b.getD 0 0) with
  | false =>
    rw [if_pos (.inr rfl)]
    rw [hK] at hk
    refine Tri.treeR (.a (.b 38 false) (.a (.at [.int .u8 (b.getD 0 0)]) (.f [] hk .nil))) rfl ?_
    repeat' (first | exact p0 (by omega) | exact rI_get (by omega) | omega | (rw [beq_eq_false_iff_ne]; omega) | (rw [beq_iff_eq]; omega) | (simp [leVs, leP, leE, leEs, leL, leC]; done) | apply And.intro)
  | true =>
  rw [if_neg (by rintro (h | h); exact h0 h; cases h)]
  rw [hK] at hk
  have hb' : Byt (b.drop 1) := fun x hx => hb x (List.mem_of_mem_drop hx)
  obtain ⟨a, ys, bad, hfit, hgood, hof, hfn⟩ := tFields_ok hK hb' (by simp; omega) hn
  have hr := tRight_ok hfit
  have hc : [Ob.box [.t (.ls 1 (b.length - 1) (((rI .u8 b).drop 1).take (b.length - 1))), .t (.bool false)]] = [cur (b.drop 1) false] := cur_drop (n := 1) (by omega)
  have hfn' := hfn.cast (vs' := [vC (.ptr 0 0), vI .i64 (b.getD 0 0), vI .i64 n]) rfl hc
  refine Tri.seq (Tri.tree (.a (.b 38 false) (.a (.at [.int .u8 (b.getD 0 0)]) (.f [] hk .nil))) rfl ?_)
  repeat' (first | exact p0 (by omega) | exact rI_get (by omega) | omega | (rw [beq_eq_false_iff_ne]; omega) | (simp [leVs, leP, leE, leEs, leL, leC]; done) | apply And.intro)
  refine Tri.seq (Tri.go [] rfl ?_ ?_)
  · repeat' (first | omega | (simp; done) | (simp; omega) | apply And.intro)
  refine Tri.seq (Tri.go [.at [.int .u8 (b.getD 0 0)], .call [1] [] a.v [cur ys bad]] rfl ?_ ?_)
  · simp only [true_and, and_true]
    repeat' (first | exact hfn' | exact rI_get (by omega) | omega | (simp; done) | apply And.intro)
  cases bad with
  | true =>
    have hno : tellOk (b.getD 0 0) n (b.drop 1) = false := by
      cases hq : tellOk (b.getD 0 0) n (b.drop 1) with
      | false => rfl
      | true => have := (hgood.2 hq).1; cases this
    rw [hno]
    refine Tri.treeR .nil rfl ?_
    simp [leP, leE, leEs, leL, leC]
  | false =>
    by_cases hy : ys = []
    · subst hy
      have hyes : tellOk (b.getD 0 0) n (b.drop 1) = true := hgood.1 ⟨rfl, rfl⟩
      have ha := hof hyes
      rw [hyes, ← ha, Bool.true_and]
      cases hR : a.right with
      | true =>
        rw [hR] at hr
        refine Tri.treeR (.a (.b 70 false) (.f [] hr .nil)) rfl ?_
        simp [leVs, leP, leE, leEs, leL, leC]
      | false =>
        rw [hR] at hr
        refine Tri.treeR (.a (.b 70 false) (.f [] hr .nil)) rfl ?_
        simp [leVs, leP, leE, leEs, leL, leC]
    · have hno : tellOk (b.getD 0 0) n (b.drop 1) = false := by
        cases hq : tellOk (b.getD 0 0) n (b.drop 1) with
        | false => rfl
        | true => exact absurd (hgood.2 hq).2 hy
      have hlen : 0 < ys.length := List.length_pos_iff.2 hy
      rw [hno]
      refine Tri.treeR (.a (.b 70 true) .nil) rfl ?_
      simp [leP, leE, leEs, leL, leC, hlen, hy]
end Go.Proofs.Ytheaeddojcebjaa
