/-
  The law TellFails.
-/
import Derived.Test.YtheaeddojcebjaaM43
set_option maxRecDepth 100000
set_option maxHeartbeats 4000000
set_option linter.unusedVariables false
set_option linter.unusedSimpArgs false
namespace Go.Proofs.Ytheaeddojcebjaa
open Go.RowKit

theorem or128i {x : Int} (h : 0 ≤ x ∧ x ≤ 255) : IntKind.i64.wrap (BitVec.ofInt IntKind.i64.bits x ||| BitVec.ofInt IntKind.i64.bits 128).toNat = x % 128 + 128 := by
  obtain ⟨n, rfl⟩ := Int.eq_ofNat_of_zero_le h.1
  have hn : n < 256 := by omega
  have : ∀ n : _root_.Fin 256, IntKind.i64.wrap (BitVec.ofInt IntKind.i64.bits (n.val : Int) ||| BitVec.ofInt IntKind.i64.bits 128).toNat = (n.val : Int) % 128 + 128 := by decide
  exact this ⟨n, hn⟩
theorem and127i {x : Int} (h : 0 ≤ x ∧ x ≤ 255) : IntKind.i64.wrap (BitVec.ofInt IntKind.i64.bits x &&& BitVec.ofInt IntKind.i64.bits 127).toNat = x % 128 := by
  obtain ⟨n, rfl⟩ := Int.eq_ofNat_of_zero_le h.1
  have hn : n < 256 := by omega
  have : ∀ n : _root_.Fin 256, IntKind.i64.wrap (BitVec.ofInt IntKind.i64.bits (n.val : Int) &&& BitVec.ofInt IntKind.i64.bits 127).toNat = (n.val : Int) % 128 := by decide
  exact this ⟨n, hn⟩
theorem failFit {f e : Int} (hf : b64 f) (he : b64 e) : Tell.Fit { fn := f, exc := e } := ⟨hf, he, by simp, by simp, wrd_nil, by simp [b64], by simp [b64], by simp, by simp, by simp, by simp [b64], by simp [b64], by simp [b64], by simp, fun o h => (nomatch h)⟩
theorem failRight {f e : Int} (he : e ≠ 0) : Tell.right { fn := f, exc := e } = (failingB e && bytefulB f) := by
  unfold Tell.right
  rw [if_neg he]
  simp [tEq]
theorem tellFails_ok {f0 e0 : Int} (hf0 : b64 f0) (he0 : b64 e0) (near : Bool) : FnOk Try.prog 17 [vI .i64 f0, vI .i64 e0, vB near] [] (vB true) [] := by
  have haw := awake6_ok
  refine FnOk.start t17 rfl rfl rfl ?_
  refine Tri.seq (Tri.go [] rfl trivial ?_)
  refine Tri.seq (Tri.tree (.f [] haw .nil) rfl ⟨trivial, trivial, ?_⟩)
  refine Tri.mid (fun ρ hl => ∃ f e, b64 f ∧ b64 e ∧ hl = [] ∧ keepE ρ [0, 1] = some [(0, vI .i64 f), (1, vI .i64 e)]) ?_ ?_
  · cases near with
    | false => exact Tri.tree .nil rfl ⟨f0, e0, hf0, he0, rfl, keep_of rfl rfl⟩
    | true =>
      have h1 := within_ok (k := f0) (n := 256) hf0 (by omega)
      have h2 := within_ok (k := e0) (n := 9) he0 (by omega)
      have m1 := Int.emod_nonneg f0 (show (256 : Int) ≠ 0 by omega)
      have m2 := Int.emod_nonneg e0 (show (9 : Int) ≠ 0 by omega)
      have m3 := Int.emod_lt_of_pos f0 (show (0 : Int) < 256 by omega)
      have m4 := Int.emod_lt_of_pos e0 (show (0 : Int) < 9 by omega)
      exact Tri.tree (.f [] h1 (.f [] h2 .nil)) rfl ⟨trivial, by simp [leVs, leP, leE, leC], trivial, by simp [leVs, leP, leE, leC], f0 % 256, e0 % 9, by simp only [b64]; omega, by simp only [b64]; omega, rfl, keep_of rfl rfl⟩
  rintro ρ hl' ⟨f, e, hf, he, rfl, hk⟩
  refine Tri.keep _ hk ?_
  have hF := fail_ok f e
  refine Tri.seq (Tri.tree (.f [] hF .nil) rfl ⟨trivial, by simp [leVs, leP, leE, leC], ?_⟩)
  refine Tri.seq (Tri.tree (.a (.b 27 false) (.a (.b 33 false) (.a (.b 46 false) .nil))) rfl ?_)
  refine ⟨by simp, by simp, by simp, by simp, by simp, ?_⟩
  by_cases h0 : e = 0
  · subst h0
    refine Tri.treeR .nil rfl ?_
    simp [leP, leE, leC]
  refine Tri.seq (Tri.tree (.a (.b 48 false) .nil) rfl ⟨by simp [h0], ?_⟩)
  cases hR : failingB e && bytefulB f with
  | false =>
    have hB := tellBytesNo_ok (failFit hf he) ((failRight (f := f) h0).trans hR)
    refine Tri.seq (Tri.tree (.f [] hB .nil) rfl ⟨trivial, by simp [leVs, leP, leE, leL, leC], ?_⟩)
    have hR' : ¬ ((1 ≤ e ∧ e ≤ 4 ∨ e = 6) ∧ 0 ≤ f ∧ f ≤ 255) := by
      simp [failingB, bytefulB] at hR
      omega
    by_cases q1 : 0 ≤ f
    case neg =>
      refine Tri.treeR (.a (.b 56 false) .nil) rfl ?_
      simp [leP, leE, leC, *]
    by_cases q2 : f ≤ 255
    case neg =>
      refine Tri.treeR (.a (.b 56 true) (.a (.b 60 false) .nil)) rfl ?_
      simp [leP, leE, leC, *]
    have hne6 : e ≠ 6 := by omega
    by_cases q3 : 1 ≤ e
    · have q4 : ¬ e ≤ 4 := by omega
      refine Tri.treeR (.a (.b 56 true) (.a (.b 60 true) (.a (.b 63 true) (.a (.b 67 false) (.a (.b 76 false) (.a (.b 79 true) (.a (.b 84 true) .nil))))))) rfl ?_
      simp [leP, leE, leC, *]
      all_goals (repeat' (first | omega | apply And.intro))
    · refine Tri.treeR (.a (.b 56 true) (.a (.b 60 true) (.a (.b 63 false) (.a (.b 76 false) (.a (.b 79 true) (.a (.b 84 true) .nil)))))) rfl ?_
      simp [leP, leE, leC, *]
      all_goals (repeat' (first | omega | apply And.intro))
  | true =>
    have hB := tellBytesExc_ok (failFit hf he) ((failRight (f := f) h0).trans hR) h0
    have e1 : tellB { fn := f, exc := e } = [f % 128 + 128, e] := by simp [tellB, h0]
    rw [e1] at hB
    simp only [Bool.and_eq_true] at hR
    have hff := of_decide_eq_true hR.2
    have hee := failing_rng hR.1
    have hP := tellParse_ok (b := [f % 128 + 128, e]) (by simp [Byt]; omega) (by simp) (n := 0) (by simp [b64])
    have e2 : pTell [f % 128 + 128, e] 0 = ({ fn := f % 128, exc := e }, 0) := by
      unfold pTell
      rw [if_pos ⟨rfl, by simp; omega, hR.1⟩]
      simp
    rw [e2] at hP
    refine Tri.seq (Tri.tree (.f [] hB .nil) rfl ⟨trivial, by simp [leVs, leP, leE, leL, leC], ?_⟩)
    by_cases q4 : e ≤ 4
    · have q3 : 1 ≤ e := hee.1
      refine Tri.treeR (.a (.b 56 true) (.a (.b 60 true) (.a (.b 63 true) (.a (.b 67 true) (.f [] hP (.a (.at [.int .u8 (f % 128 + 128)]) (.a (.b 106 true) (.a (.at [.int .u8 e]) (.a (.b 114 true) (.a (.b 125 true) .nil)))))))))) rfl ?_
      simp only [or128i hff, and127i hff]
      simp [leVs, leP, leE, leEs, leL, leC, rI, *]
      all_goals (repeat' (first | omega | apply And.intro))
    · have q6 : e = 6 := by
        have := hR.1
        simp [failingB] at this
        omega
      subst q6
      refine Tri.treeR (.a (.b 56 true) (.a (.b 60 true) (.a (.b 63 true) (.a (.b 67 false) (.f [] hP (.a (.at [.int .u8 (f % 128 + 128)]) (.a (.b 106 true) (.a (.at [.int .u8 6]) (.a (.b 114 true) (.a (.b 125 true) .nil)))))))))) rfl ?_
      simp only [or128i hff, and127i hff]
      simp [leVs, leP, leE, leEs, leL, leC, rI, *]
      all_goals (repeat' (first | omega | apply And.intro))
end Go.Proofs.Ytheaeddojcebjaa
