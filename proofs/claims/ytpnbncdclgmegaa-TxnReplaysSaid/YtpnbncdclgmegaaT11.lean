/-
  What a view sees (Look); a view that has looked, or written.
-/
import Derived.Test.YtpnbncdclgmegaaT10
set_option maxRecDepth 100000
set_option maxHeartbeats 1000000
set_option linter.unusedVariables false
set_option linter.unusedSimpArgs false
namespace Go.Proofs.Ytpnbncdclgmegaa
open Go.RowKit

def wordAt (L : Chs) (W : List Cel) (q t a : Int) : Int := if (getL W t a).2 then (getL W t a).1 else atL (chK L (t, a)) q
def lookF (L : Chs) (W : List Cel) (q t : Int) : Nat → Int → List Int
  | 0, _ => []
  | f + 1, a => wordAt L W q t a :: lookF L W q t f (a + 1)
def lookL (L : Chs) (W : List Cel) (q : Int) (sp : Spn) : List Int := lookF L W q sp.1 (sp.2.2 - sp.2.1).toNat sp.2.1
theorem lookF_len (L : Chs) (W : List Cel) (q t : Int) : ∀ (f : Nat) (a : Int), (lookF L W q t f a).length = f
  | 0, _ => rfl
  | f + 1, a => by simp [lookF, lookF_len L W q t f]
theorem look_ok {s : St} (hs : StOk s) {q : Int} {R : List Spn} {W : List Cel} (hW : W.length ≤ 100000000) {sp : Spn} (h1 : -1000000000 ≤ sp.2.1) (h2 : sp.2.2 ≤ 1000000000) :
    FnOk Try.prog 62 [vC (.ptr 0 0), vVw q R W, vS3 sp] [stB s 1, stM s] (vD (lI .u16 (lookL s.L W q sp))) [stB s 1, stM s] := by
  obtain ⟨t, fr, to⟩ := sp
  simp only at h1 h2
  refine FnOk.start t62 rfl rfl rfl ?_
  refine Tri.seq (Tri.go [] rfl trivial ?_)
  refine Tri.seq (Tri.go [] rfl trivial ?_)
  refine Tri.own 7 1 (by omega) rfl ?_
  refine Tri.mid (fun ρ hl => hl = [stB s 1, stM s, .box [.t (.int .u64 q), .t (lSp R), .t (lCl W)], bxS (t, fr, to), .arr 1 (rI .u16 (lookL s.L W q (t, fr, to)))] ∧
    keepE ρ [7] = some [(7, vC (.sl 4 0 (lookL s.L W q (t, fr, to)).length))]) ?_ ?_
  · refine Tri.seq (Tri.go [] rfl trivial ?_)
    refine Tri.block ?_
    refine Tri.lp (fun z ρ hl => ∃ acc a, z = (to - a).toNat ∧ fr ≤ a ∧ acc.length + (to - a).toNat ≤ (to - fr).toNat ∧ lookL s.L W q (t, fr, to) = acc ++ lookF s.L W q t (to - a).toNat a ∧ hl = [stB s 1, stM s, .box [.t (.int .u64 q), .t (lSp R), .t (lCl W)], bxS (t, fr, to), .arr 1 (rI .u16 acc)] ∧
      keepE ρ [0, 4, 5, 7, 8] = some [(0, vC (.ptr 0 0)), (4, vC (.ptr 2 0)), (5, vC (.ptr 3 0)), (7, vC (.sl 4 0 acc.length)), (8, vI .i64 a)]) (to - fr).toNat ⟨[], fr, rfl, by omega, by simp, rfl, rfl, keep_of rfl rfl⟩ ?_
    rintro z ρ hl' ⟨acc, a, rfl, ha, hac, he, rfl, hkk⟩
    refine Tri.keep _ hkk ?_
    by_cases h : a < to
    · rw [show (to - a).toNat = (to - (a + 1)).toNat + 1 by omega, lookF] at he
      have hget := bget_ok (l := W) (by omega) (t := t) (a := a)
      have hrd := sRead_ok hs (t := t) (a := a) (q := q)
      have happ : ∀ x : Int, rI .u16 acc ++ List.take 1 ((List.replicate 1 [D.int .u16 0]).set 0 [D.int .u16 x]) = rI .u16 (acc ++ [x]) := fun x => by simp [rI]
      refine Tri.seq (Tri.go [.b 17 true] rfl ⟨decide_eq_true h, trivial⟩ ?_)
      unfold wordAt at he
      cases hb : (getL W t a).2 with
      | true =>
        rw [hb] at he hget
        simp only [if_true] at he
        refine Tri.seq (Tri.block (Tri.seq (Tri.go [] rfl trivial (Tri.seq (Tri.tree (.f [] hget .nil) rfl ⟨trivial, by simp [leVs, leP, leE, leL, leC], ?_⟩)))))
        refine Tri.seq (Tri.go [] rfl trivial ?_)
        refine Tri.tree .nil rfl ⟨⟨⟨rfl, by simp⟩, trivial⟩, ⟨.inr rfl, rfl, by simp, by simp, by omega, by omega⟩, ?_⟩
        simp only [happ]
        refine Tri.let [0, 1, 2, 3, 6] [] [0, 4, 5, 7, 8] rfl trivial ?_
        exact Tri.go [] rfl ⟨by omega, trivial⟩ (again (to - (a + 1)).toNat (by omega) ⟨acc ++ [(getL W t a).1], a + 1, rfl, by omega, by simp; omega, by rw [he]; simp, rfl, keep_of rfl (by simp)⟩)
      | false =>
        rw [hb] at he hget
        simp only [Bool.false_eq_true, if_false] at he
        refine Tri.seq (Tri.block (Tri.seq (Tri.go [] rfl trivial (Tri.seq (Tri.tree (.f [] hget .nil) rfl ⟨trivial, by simp [leVs, leP, leE, leL, leC], ?_⟩)))))
        refine Tri.seq (Tri.tree (.o [0, 1] [] hrd .nil) rfl ⟨trivial, by simp [leVs, leP, leE, leL, leC], rfl, ?_⟩)
        refine Tri.tree .nil rfl ⟨⟨⟨rfl, by simp⟩, trivial⟩, ⟨.inr rfl, rfl, by simp, by simp, by omega, by omega⟩, ?_⟩
        simp only [happ]
        refine Tri.let [0, 1, 2, 3, 6] [] [0, 4, 5, 7, 8] rfl trivial ?_
        exact Tri.go [] rfl ⟨by omega, trivial⟩ (again (to - (a + 1)).toNat (by omega) ⟨acc ++ [atL (chK s.L (t, a)) q], a + 1, rfl, by omega, by simp; omega, by rw [he]; simp, rfl, keep_of rfl (by simp)⟩)
    · rw [show (to - a).toNat = 0 by omega, lookF, List.append_nil] at he
      subst he
      exact Tri.seq (Tri.go [.b 17 false] rfl ⟨decide_eq_false h, trivial⟩ (And.intro rfl (keep_of rfl rfl)))
  rintro ρ hl' ⟨rfl, hkk⟩
  refine Tri.keep _ hkk ?_
  refine Tri.treeR (.a (.call [0, 1] [4] .u []) .nil) rfl ?_
  simp [leP, leE, leC]
  exact .refl _
end Go.Proofs.Ytpnbncdclgmegaa
