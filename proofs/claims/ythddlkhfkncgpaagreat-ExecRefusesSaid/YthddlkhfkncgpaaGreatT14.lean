/-
  Addresses that have no cell (Rest); what a view sees (Look).
  What a view sees (Look); a view that has looked, or written.
  A view that has looked, or written (view.Read, view.Write).
  The engine: New, Begin, keep, View, Abort, Store.
  Transactions by their owners: what was set is got.
  The engine: Read, Write, Commit.
-/
import Derived.Test.YthddlkhfkncgpaaGreatT9
set_option maxRecDepth 100000
set_option maxHeartbeats 1000000
set_option linter.unusedVariables false
set_option linter.unusedSimpArgs false
namespace Go.Proofs.YthddlkhfkncgpaaGreat
open Go.RowKit

/-- What is left of a span, from an address on, the cells being looked at from a place on. -/
def restF (l : List Cel) (t to : Int) : Nat → Nat → Int → List Spn
  | 0, _, fr => if fr < to then [(t, fr, to)] else []
  | f + 1, i, fr => match l[i]? with
    | some c => if c.1 == t && decide (c.2.1 < to) then (if fr < c.2.1 then [(t, fr, c.2.1)] else []) ++ restF l t to f (i + 1) (c.2.1 + 1) else (if fr < to then [(t, fr, to)] else [])
    | none => if fr < to then [(t, fr, to)] else []
def restL (l : List Cel) (s : Spn) : List Spn := restF l s.1 s.2.2 (l.length - findL l s.1 s.2.1) (findL l s.1 s.2.1) s.2.1
abbrev bxS (s : Spn) : Ob := .box [.t (.int .i64 s.1), .t (.int .i64 s.2.1), .t (.int .i64 s.2.2)]
theorem rest_ok {l : List Cel} (hl : l.length ≤ 100000000) (hc : ∀ c ∈ l, -1000000000 ≤ c.2.1 ∧ c.2.1 ≤ 1000000000) {s : Spn} : FnOk Tryz.prog 260 [vCl l, vS3 s] [] (vSp (restL l s)) [] := by
  obtain ⟨t, fr0, to⟩ := s
  have hf := bfind_ok (l := l) (by omega) (t := t) (a := fr0)
  have hfl := findL_le l t fr0
  refine FnOk.start t260 rfl rfl rfl ?_
  refine Tri.seq (Tri.go [] rfl trivial ?_)
  refine Tri.seq (Tri.go [] rfl trivial ?_)
  refine Tri.own 5 3 (by omega) rfl ?_
  refine Tri.seq (Tri.go [] rfl trivial ?_)
  refine Tri.seq (Tri.tree (.f [] hf .nil) rfl ⟨trivial, by simp [leVs, leP, leE, leL, leC], ?_⟩)
  have hspec : restL l (t, fr0, to) = restF l t to (l.length - findL l t fr0) (findL l t fr0) fr0 := rfl
  rw [hspec]
  generalize findL l t fr0 = j0 at *
  refine Tri.mid (fun ρ hl => ∃ acc fr, restF l t to (l.length - j0) j0 fr0 = acc ++ (if fr < to then [(t, fr, to)] else []) ∧ acc.length ≤ l.length ∧ hl = [bxS (t, fr0, to), .arr 3 (rwS acc)] ∧
    keepE ρ [3, 5, 6] = some [(3, vC (.ptr 0 0)), (5, vC (.sl 1 0 acc.length)), (6, vI .i64 fr)]) ?_ ?_
  · refine Tri.block ?_
    refine Tri.lp (fun z ρ hl => ∃ acc fr i, z = l.length - i ∧ i ≤ l.length ∧ acc.length ≤ i ∧ restF l t to (l.length - j0) j0 fr0 = acc ++ restF l t to (l.length - i) i fr ∧ hl = [bxS (t, fr0, to), .arr 3 (rwS acc)] ∧
      keepE ρ [0, 3, 5, 6, 7] = some [(0, vCl l), (3, vC (.ptr 0 0)), (5, vC (.sl 1 0 acc.length)), (6, vI .i64 fr), (7, vI .i64 i)]) (l.length - j0) ⟨[], fr0, j0, rfl, hfl, by simp, rfl, rfl, keep_of rfl rfl⟩ ?_
    rintro z ρ hl' ⟨acc, fr, i, rfl, hi, hac, he, rfl, hkk⟩
    refine Tri.keep _ hkk ?_
    by_cases h : i < l.length
    · have hg := rwC_get h
      have hx := hc _ (List.getElem_mem h)
      rw [show l.length - i = (l.length - (i + 1)) + 1 by omega, restF, List.getElem?_eq_getElem h] at he
      simp only at he
      generalize l[i] = c at *
      by_cases c1 : c.1 = t
      · by_cases c2 : c.2.1 < to
        · rw [if_pos (by simp [c1, c2])] at he
          refine Tri.seq (Tri.tree (.a (.b 26 true) (.a (.at [.int .i64 c.1, .int .i64 c.2.1, .int .u16 c.2.2]) (.a (.b 37 true) (.a (.at [.int .i64 c.1, .int .i64 c.2.1, .int .u16 c.2.2]) (.a (.b 47 true) .nil))))) rfl ⟨decide_eq_true (by omega), ⟨by omega, rfl, hg⟩, by simpa using c1, ⟨by omega, rfl, hg⟩, decide_eq_true c2, ?_⟩)
          refine Tri.seq (Tri.block (Tri.seq (Tri.tree (.a (.at [.int .i64 c.1, .int .i64 c.2.1, .int .u16 c.2.2]) .nil) rfl ⟨⟨by omega, rfl, hg⟩, ?_⟩)))
          by_cases c3 : fr < c.2.1
          · rw [if_pos c3] at he
            have hrow : (List.replicate 1 [D.int .i64 0, D.int .i64 0, D.int .i64 0]).set 0 [D.int .i64 t, D.int .i64 fr, D.int .i64 c.2.1] = rwS [(t, fr, c.2.1)] := rfl
            have happ : rwS acc ++ List.take 1 ((List.replicate 1 [D.int .i64 0, D.int .i64 0, D.int .i64 0]).set 0 [D.int .i64 t, D.int .i64 fr, D.int .i64 c.2.1]) = rwS (acc ++ [(t, fr, c.2.1)]) := by rw [hrow, ← rwS_app]; rfl
            refine Tri.seq (Tri.tree (.a (.b 58 true) .nil) rfl ⟨decide_eq_true c3, ⟨⟨rfl, by simp⟩, trivial⟩, ⟨.inr rfl, rfl, by simp, by simp, by omega, by omega⟩, ?_⟩)
            simp only [happ]
            refine Tri.let [0, 2] [] [0, 3, 5, 7, 9] rfl trivial ?_
            refine Tri.go [] rfl ⟨by omega, trivial⟩ ?_
            refine Tri.go [] rfl ⟨by omega, trivial⟩ (again (l.length - (i + 1)) (by omega) ⟨acc ++ [(t, fr, c.2.1)], c.2.1 + 1, i + 1, rfl, by omega, by simp; omega, by rw [he]; simp, rfl, keep_of rfl (by simp)⟩)
          · rw [if_neg c3] at he
            refine Tri.seq (Tri.tree (.a (.b 58 false) .nil) rfl ⟨decide_eq_false c3, ?_⟩)
            refine Tri.go [] rfl ⟨by omega, trivial⟩ ?_
            refine Tri.go [] rfl ⟨by omega, trivial⟩ (again (l.length - (i + 1)) (by omega) ⟨acc, c.2.1 + 1, i + 1, rfl, by omega, by omega, by rw [he]; simp, rfl, keep_of rfl (by simp)⟩)
        · rw [if_neg (by simp [c2])] at he
          refine Tri.seq (Tri.tree (.a (.b 26 true) (.a (.at [.int .i64 c.1, .int .i64 c.2.1, .int .u16 c.2.2]) (.a (.b 37 true) (.a (.at [.int .i64 c.1, .int .i64 c.2.1, .int .u16 c.2.2]) (.a (.b 47 false) .nil))))) rfl ⟨decide_eq_true (by omega), ⟨by omega, rfl, hg⟩, by simpa using c1, ⟨by omega, rfl, hg⟩, decide_eq_false c2, ?_⟩)
          exact ⟨acc, fr, he, by omega, rfl, keep_of rfl rfl⟩
      · rw [if_neg (by simp [c1])] at he
        refine Tri.seq (Tri.tree (.a (.b 26 true) (.a (.at [.int .i64 c.1, .int .i64 c.2.1, .int .u16 c.2.2]) (.a (.b 37 false) .nil))) rfl ⟨decide_eq_true (by omega), ⟨by omega, rfl, hg⟩, by simpa using c1, ?_⟩)
        exact ⟨acc, fr, he, by omega, rfl, keep_of rfl rfl⟩
    · have he : restF l t to (l.length - j0) j0 fr0 = acc ++ (if fr < to then [(t, fr, to)] else []) := by
        rw [he, show l.length - i = 0 by omega]
        rfl
      refine Tri.seq (Tri.tree (.a (.b 26 false) .nil) rfl ⟨decide_eq_false (by omega), ?_⟩)
      exact ⟨acc, fr, he, by omega, rfl, keep_of rfl rfl⟩
  rintro ρ hl' ⟨acc, fr, he, hac, rfl, hkk⟩
  refine Tri.keep _ hkk ?_
  rw [he]
  by_cases h : fr < to
  · rw [if_pos h]
    have hrow : (List.replicate 1 [D.int .i64 0, D.int .i64 0, D.int .i64 0]).set 0 [D.int .i64 t, D.int .i64 fr, D.int .i64 to] = rwS [(t, fr, to)] := rfl
    have happ : rwS acc ++ List.take 1 ((List.replicate 1 [D.int .i64 0, D.int .i64 0, D.int .i64 0]).set 0 [D.int .i64 t, D.int .i64 fr, D.int .i64 to]) = rwS (acc ++ [(t, fr, to)]) := by rw [hrow, ← rwS_app]; rfl
    refine Tri.seq (Tri.tree (.a (.b 72 true) .nil) rfl ⟨decide_eq_true h, ⟨⟨rfl, by simp⟩, trivial⟩, ⟨.inr rfl, rfl, by simp, by simp, by omega, by omega⟩, ?_⟩)
    simp only [happ]
    refine Tri.treeR (.a (.call [] [2] .u []) .nil) rfl ?_
    simp [leP, leE, leC]
    exact .nil
  · rw [if_neg h, List.append_nil]
    refine Tri.seq (Tri.tree (.a (.b 72 false) .nil) rfl ⟨decide_eq_false h, ?_⟩)
    refine Tri.treeR (.a (.call [] [1] .u []) .nil) rfl ?_
    simp [leP, leE, leC]
    exact .nil
end Go.Proofs.YthddlkhfkncgpaaGreat

set_option maxRecDepth 100000
set_option maxHeartbeats 1000000
set_option linter.unusedVariables false
set_option linter.unusedSimpArgs false
namespace Go.Proofs.YthddlkhfkncgpaaGreat
open Go.RowKit

def wordAt (L : Chs) (W : List Cel) (q t a : Int) : Int := if (getL W t a).2 then (getL W t a).1 else atL (chK L (t, a)) q
def lookF (L : Chs) (W : List Cel) (q t : Int) : Nat → Int → List Int
  | 0, _ => []
  | f + 1, a => wordAt L W q t a :: lookF L W q t f (a + 1)
def lookL (L : Chs) (W : List Cel) (q : Int) (sp : Spn) : List Int := lookF L W q sp.1 (sp.2.2 - sp.2.1).toNat sp.2.1
theorem lookF_len (L : Chs) (W : List Cel) (q t : Int) : ∀ (f : Nat) (a : Int), (lookF L W q t f a).length = f
  | 0, _ => rfl
  | f + 1, a => by simp [lookF, lookF_len L W q t f]
theorem look_ok {s : St} (hs : StOk s) {q : Int} {R : List Spn} {W : List Cel} (hW : W.length ≤ 100000000) {sp : Spn} (h1 : -1000000000 ≤ sp.2.1) (h2 : sp.2.2 ≤ 1000000000) :
    FnOk Tryz.prog 180 [vC (.ptr 0 0), vVw q R W, vS3 sp] [stB s 1, stM s] (vD (lI .u16 (lookL s.L W q sp))) [stB s 1, stM s] := by
  obtain ⟨t, fr, to⟩ := sp
  simp only at h1 h2
  refine FnOk.start t180 rfl rfl rfl ?_
  refine Tri.seq (Tri.go [] rfl trivial ?_)
  refine Tri.seq (Tri.go [] rfl trivial ?_)
  refine Tri.own 7 1 (by omega) rfl ?_
  refine Tri.mid (fun ρ hl => hl = [stB s 1, stM s, .box [.t (.int .u64 q), .t (lSp R), .t (lCl W)], bxS (t, fr, to), .arr 1 (rI .u16 (lookL s.L W q (t, fr, to)))] ∧
    keepE ρ [7] = some [(7, vC (.sl 4 0 (lookL s.L W q (t, fr, to)).length))]) ?_ ?_
  · refine Tri.seq (Tri.go [] rfl trivial ?_)
    refine Tri.block ?_
    refine Tri.lp (fun z ρ hl => ∃ acc a, z = (to - a).toNat ∧ fr ≤ a ∧ acc.length + (to - a).toNat ≤ (to - fr).toNat ∧ lookL s.L W q (t, fr, to) = acc ++ lookF s.L W q t (to - a).toNat a ∧ hl = [stB s 1, stM s, .box [.t (.int .u64 q), .t (lSp R), .t (lCl W)], bxS (t, fr, to), .arr 1 (rI .u16 acc)] ∧
      keepE ρ [0, 4, 5, 7, 8] = some [(0, vC (.ptr 0 0)), (4, vC (.ptr 2 0)), (5, vC (.ptr 3 0)), (7, vC (.sl 4 0 acc.length)), (8, vI .i64 a)]) (to - fr).toNat ⟨[], fr, rfl, by omega, by simp, rfl, rfl, keep_of rfl rfl⟩ ?_
    rintro z ρ hl' ⟨acc, a, rfl, ha, hac, he, rfl, hkk⟩
    refine Tri.keep _ hkk ?_
    by_cases h : a < to
    · rw [show (to - a).toNat = (to - (a + 1)).toNat + 1 by omega, lookF] at he
      have hget := bget_ok (l := W) (by omega) (t := t) (a := a)
      have hrd := sRead_ok hs (t := t) (a := a) (q := q)
      have happ : ∀ x : Int, rI .u16 acc ++ List.take 1 ((List.replicate 1 [D.int .u16 0]).set 0 [D.int .u16 x]) = rI .u16 (acc ++ [x]) := fun x => by simp [rI]
      refine Tri.seq (Tri.go [.b 17 true] rfl ⟨decide_eq_true h, trivial⟩ ?_)
      unfold wordAt at he
      cases hb : (getL W t a).2 with
      | true =>
        rw [hb] at he hget
        simp only [if_true] at he
        refine Tri.seq (Tri.block (Tri.seq (Tri.go [] rfl trivial (Tri.seq (Tri.tree (.f [] hget .nil) rfl ⟨trivial, by simp [leVs, leP, leE, leL, leC], ?_⟩)))))
        refine Tri.seq (Tri.go [] rfl trivial ?_)
        refine Tri.tree .nil rfl ⟨⟨⟨rfl, by simp⟩, trivial⟩, ⟨.inr rfl, rfl, by simp, by simp, by omega, by omega⟩, ?_⟩
        simp only [happ]
        refine Tri.let [0, 1, 2, 3, 6] [] [0, 4, 5, 7, 8] rfl trivial ?_
        exact Tri.go [] rfl ⟨by omega, trivial⟩ (again (to - (a + 1)).toNat (by omega) ⟨acc ++ [(getL W t a).1], a + 1, rfl, by omega, by simp; omega, by rw [he]; simp, rfl, keep_of rfl (by simp)⟩)
      | false =>
        rw [hb] at he hget
        simp only [Bool.false_eq_true, if_false] at he
        refine Tri.seq (Tri.block (Tri.seq (Tri.go [] rfl trivial (Tri.seq (Tri.tree (.f [] hget .nil) rfl ⟨trivial, by simp [leVs, leP, leE, leL, leC], ?_⟩)))))
        refine Tri.seq (Tri.tree (.o [0, 1] [] hrd .nil) rfl ⟨trivial, by simp [leVs, leP, leE, leL, leC], rfl, ?_⟩)
        refine Tri.tree .nil rfl ⟨⟨⟨rfl, by simp⟩, trivial⟩, ⟨.inr rfl, rfl, by simp, by simp, by omega, by omega⟩, ?_⟩
        simp only [happ]
        refine Tri.let [0, 1, 2, 3, 6] [] [0, 4, 5, 7, 8] rfl trivial ?_
        exact Tri.go [] rfl ⟨by omega, trivial⟩ (again (to - (a + 1)).toNat (by omega) ⟨acc ++ [atL (chK s.L (t, a)) q], a + 1, rfl, by omega, by simp; omega, by rw [he]; simp, rfl, keep_of rfl (by simp)⟩)
    · rw [show (to - a).toNat = 0 by omega, lookF, List.append_nil] at he
      subst he
      exact Tri.seq (Tri.go [.b 17 false] rfl ⟨decide_eq_false h, trivial⟩ (And.intro rfl (keep_of rfl rfl)))
  rintro ρ hl' ⟨rfl, hkk⟩
  refine Tri.keep _ hkk ?_
  refine Tri.treeR (.a (.call [0, 1] [4] .u []) .nil) rfl ?_
  simp [leP, leE, leC]
  exact .refl _
end Go.Proofs.YthddlkhfkncgpaaGreat

set_option maxRecDepth 100000
set_option maxHeartbeats 1000000
set_option linter.unusedVariables false
set_option linter.unusedSimpArgs false
namespace Go.Proofs.YthddlkhfkncgpaaGreat
open Go.RowKit

abbrev SpB (s : Spn) : Prop := -1000000000 ≤ s.2.1 ∧ s.2.2 ≤ 1000000000
abbrev CeB (c : Cel) : Prop := -100000000 ≤ c.2.1 ∧ c.2.1 ≤ 100000000
theorem restF_len (l : List Cel) (t to : Int) : ∀ (f i : Nat) (fr : Int), (restF l t to f i fr).length ≤ f + 1
  | 0, i, fr => by unfold restF; split <;> simp
  | f + 1, i, fr => by
    unfold restF
    split
    · rename_i c _
      split
      · have := restF_len l t to f (i + 1) (c.2.1 + 1)
        rw [List.length_append]
        split <;> simp <;> omega
      · split <;> simp
    · split <;> simp
theorem restL_len (l : List Cel) (s : Spn) : (restL l s).length ≤ l.length + 1 := by
  have := restF_len l s.1 s.2.2 (l.length - findL l s.1 s.2.1) (findL l s.1 s.2.1) s.2.1
  unfold restL
  omega
theorem restF_rng {l : List Cel} {t to : Int} (hc : ∀ c ∈ l, CeB c) (hto : to ≤ 1000000000) : ∀ (f i : Nat) (fr : Int), -1000000000 ≤ fr → ∀ x ∈ restF l t to f i fr, SpB x
  | 0, i, fr, h, x, hx => by
    unfold restF at hx
    split at hx
    · simp at hx; subst hx; exact ⟨h, hto⟩
    · simp at hx
  | f + 1, i, fr, h, x, hx => by
    unfold restF at hx
    split at hx
    · rename_i c hci
      have hcb := hc c (List.mem_of_getElem? hci)
      split at hx
      · rcases List.mem_append.1 hx with hx | hx
        · split at hx
          · simp at hx; subst hx; exact ⟨h, by have := hcb.2; show c.2.1 ≤ _; omega⟩
          · simp at hx
        · exact restF_rng hc hto f (i + 1) (c.2.1 + 1) (by have := hcb.1; omega) x hx
      · split at hx
        · simp at hx; subst hx; exact ⟨h, hto⟩
        · simp at hx
    · split at hx
      · simp at hx; subst hx; exact ⟨h, hto⟩
      · simp at hx
theorem restL_rng {l : List Cel} {s : Spn} (hc : ∀ c ∈ l, CeB c) (hs : SpB s) : ∀ x ∈ restL l s, SpB x := restF_rng hc hs.2 _ _ _ hs.1
theorem stepS_rng {q : AddSt} {x : Spn} (h1 : ∀ y ∈ q.1, SpB y) (h2 : SpB q.2.2) (hx : SpB x) : (∀ y ∈ (stepS q x).1, SpB y) ∧ SpB (stepS q x).2.2 := by
  unfold stepS
  split
  · exact ⟨fun y hy => by rcases List.mem_append.1 hy with hy | hy; exact h1 y hy; simp at hy; subst hy; exact hx, h2⟩
  · split
    · exact ⟨fun y hy => by rcases List.mem_append.1 hy with hy | hy; exact h1 y hy; simp at hy; subst hy; exact hx, h2⟩
    · refine ⟨h1, ?_⟩
      simp only [SpB, mnI, mxI] at *
      split <;> split <;> omega
theorem foldS_rng {s : Spn} (hs : SpB s) : ∀ (R : List Spn) (q : AddSt), (∀ y ∈ q.1, SpB y) → SpB q.2.2 → (∀ y ∈ R, SpB y) → (∀ y ∈ (R.foldl stepS q).1, SpB y) ∧ SpB (R.foldl stepS q).2.2
  | [], q, h1, h2, _ => ⟨h1, h2⟩
  | x :: R, q, h1, h2, h3 => by
    obtain ⟨e1, e2⟩ := stepS_rng h1 h2 (h3 x (by simp))
    exact foldS_rng hs R (stepS q x) e1 e2 fun y hy => h3 y (by simp [hy])
theorem addS_rng {R : List Spn} {s : Spn} (hR : ∀ y ∈ R, SpB y) (hs : SpB s) : ∀ y ∈ addS R s, SpB y := by
  obtain ⟨h1, h2⟩ := foldS_rng hs R ([], 0, s) (by simp) hs hR
  intro y hy
  unfold addS at hy
  rcases List.mem_append.1 hy with hy | hy
  · exact h1 y (List.mem_of_mem_take hy)
  · rcases List.mem_cons.1 hy with rfl | hy
    · exact h2
    · exact h1 y (List.mem_of_mem_drop hy)
def addsS (R l : List Spn) : List Spn := l.foldl addS R
theorem addsS_succ {R l : List Spn} {i : Nat} (h : i < l.length) : addsS R (l.take (i + 1)) = addS (addsS R (l.take i)) l[i] := by
  unfold addsS
  rw [← List.take_append_getElem h, List.foldl_append]
  rfl
theorem addsS_len : ∀ (l R : List Spn), (addsS R l).length ≤ R.length + l.length
  | [], R => by simp [addsS]
  | x :: l, R => by
    have h1 := addsS_len l (addS R x)
    have h2 := addS_len R x
    have : addsS R (x :: l) = addsS (addS R x) l := rfl
    rw [this]
    simp
    omega
theorem addsS_rng : ∀ (l R : List Spn), (∀ y ∈ R, SpB y) → (∀ y ∈ l, SpB y) → ∀ y ∈ addsS R l, SpB y
  | [], R, h, _ => h
  | x :: l, R, h, h2 => addsS_rng l (addS R x) (addS_rng h (h2 x (by simp))) fun y hy => h2 y (by simp [hy])
def vrdR (L : Chs) (q : Int) (R : List Spn) (W : List Cel) (sp : Spn) (most : Int) : List Spn × List Int × Int :=
  if most < (addsS R (restL W sp)).length then (R, [], 4) else (addsS R (restL W sp), lookL L W q sp, 0)
abbrev eVw (q : Int) (R : List Spn) (W : List Cel) : E := .agg [.t (.int .u64 q), .t (lSp R), .t (lCl W)]
abbrev bxV (q : Int) (R : List Spn) (W : List Cel) : Ob := .box [.t (.int .u64 q), .t (lSp R), .t (lCl W)]
theorem vread_ok {s : St} (hs : StOk s) {q : Int} {R : List Spn} {W : List Cel} (hR : R.length ≤ 1000000) (hW : W.length ≤ 1000000) (hc : ∀ c ∈ W, CeB c) {sp : Spn} (hsp : SpB sp) {most : Int} :
    FnOk Tryz.prog 224 [vC (.ptr 0 0), vVw q R W, vS3 sp, vI .i64 most] [stB s 1, stM s] (.tup [eVw q (vrdR s.L q R W sp most).1 W, .c (.t (lI .u16 (vrdR s.L q R W sp most).2.1)), .c (.t (.int .i64 (vrdR s.L q R W sp most).2.2))]) [stB s 1, stM s] := by
  have hown := own_ok (s := q) (R := R) (W := W) (by omega) (by omega)
  have hrest := rest_ok (l := W) (by omega) (fun c h => by have := hc c h; omega) (s := sp)
  have hrl := restL_len W sp
  refine FnOk.start t224 rfl rfl rfl ?_
  refine Tri.seq (Tri.go [] rfl trivial ?_)
  refine Tri.seq (Tri.tree (.f [] hown .nil) rfl ⟨trivial, by simp [leVs, leP, leE, leL, leC], ?_⟩)
  refine Tri.mid (fun ρ hl => hl = [stB s 1, stM s, bxV q R W, bxS sp, .box [.t (.int .u64 0), .t .nil, .t .nil], bxV q (addsS R (restL W sp)) W] ∧
    keepE ρ [0, 3, 5, 6, 8, 9, 10, 11] = some [(0, vC (.ptr 0 0)), (3, vI .i64 most), (5, vC (.ptr 2 0)), (6, vC (.ptr 3 0)), (8, vC (.ptr 4 0)), (9, vD .nil), (10, vI .i64 0), (11, vC (.ptr 5 0))]) ?_ ?_
  · refine Tri.seq (Tri.tree (.f [] hrest .nil) rfl ⟨trivial, by simp [leVs, leP, leE, leL, leC], ?_⟩)
    generalize restL W sp = l at *
    refine Tri.block ?_
    refine Tri.lp (fun z ρ hl => ∃ i, z = l.length - i ∧ i ≤ l.length ∧ hl = [stB s 1, stM s, bxV q R W, bxS sp, .box [.t (.int .u64 0), .t .nil, .t .nil], bxV q (addsS R (l.take i)) W] ∧
      keepE ρ [0, 3, 5, 6, 8, 9, 10, 11, 19, 20, 21] = some [(0, vC (.ptr 0 0)), (3, vI .i64 most), (5, vC (.ptr 2 0)), (6, vC (.ptr 3 0)), (8, vC (.ptr 4 0)), (9, vD .nil), (10, vI .i64 0), (11, vC (.ptr 5 0)), (19, vSp l), (20, vI .i64 l.length), (21, vI .i64 i)]) l.length ⟨0, by omega, by omega, rfl, keep_of rfl rfl⟩ ?_
    rintro z ρ hl' ⟨i, rfl, hi, rfl, hkk⟩
    refine Tri.keep _ hkk ?_
    by_cases h : i < l.length
    · have hg := rwS_get h
      have hsx := addsS_succ (R := R) h
      have hln := addsS_len (l.take i) R
      have htl : (l.take i).length ≤ l.length := by rw [List.length_take]; omega
      generalize l[i] = x at *
      generalize addsS R (l.take i) = R' at *
      have hadd := add_ok (R := R') (by omega) (s := x)
      refine Tri.seq (Tri.go [] rfl trivial (Tri.seq (Tri.go [.b 22 true] rfl ⟨decide_eq_true (by omega), trivial⟩ ?_)))
      refine Tri.seq (Tri.block (Tri.seq (Tri.tree (.a (.at [.int .i64 x.1, .int .i64 x.2.1, .int .i64 x.2.2]) .nil) rfl ⟨⟨by omega, rfl, hg⟩, by simp, ?_⟩)))
      refine Tri.tree (.f [] hadd .nil) rfl ⟨trivial, by simp [leVs, leP, leE, leL, leC], ?_⟩
      refine Tri.let [0, 1, 2, 3, 4, 5] [] [0, 3, 5, 6, 8, 9, 10, 11, 19, 20, 21] rfl trivial ?_
      exact Tri.go [] rfl ⟨by omega, trivial⟩ (again (l.length - (i + 1)) (by omega) ⟨i + 1, rfl, by omega, by rw [hsx], keep_of rfl (by simp)⟩)
    · have : i = l.length := by omega
      subst this
      rw [List.take_length]
      exact Tri.seq (Tri.go [] rfl trivial (Tri.seq (Tri.go [.b 22 false] rfl ⟨decide_eq_false (by omega), trivial⟩ (And.intro rfl (keep_of rfl rfl)))))
  rintro ρ hl' ⟨rfl, hkk⟩
  refine Tri.keep _ hkk ?_
  unfold vrdR
  have hlook := look_ok hs (q := q) (R := R) (W := W) (by omega) (sp := sp) hsp.1 hsp.2
  by_cases h : most < (addsS R (restL W sp)).length
  · rw [if_pos h]
    refine Tri.seq (Tri.tree (.a (.b 35 true) (.f [] hown .nil)) rfl ⟨decide_eq_true h, trivial, by simp [leVs, leP, leE, leL, leC], ?_⟩)
    exact RetQ.le [0, 1] [] rfl ⟨trivial, trivial⟩ (.tup (.cons (.refl _) (.cons (.c (.t (.nil 1))) (.cons (.refl _) .nil)))) (.refl _)
  · rw [if_neg h]
    refine Tri.seq (Tri.tree (.a (.b 35 false) .nil) rfl ⟨decide_eq_false h, ?_⟩)
    refine Tri.tree (.o [0, 1] [] hlook .nil) rfl ⟨trivial, by simp [leVs, leP, leE, leL, leC], rfl, ?_⟩
    exact RetQ.le [0, 1] [] rfl ⟨trivial, trivial⟩ (.refl _) (.refl _)
def putsL (W l : List Cel) : List Cel := l.foldl putL W
theorem putsL_succ {W l : List Cel} {i : Nat} (h : i < l.length) : putsL W (l.take (i + 1)) = putL (putsL W (l.take i)) l[i] := by
  unfold putsL
  rw [← List.take_append_getElem h, List.foldl_append]
  rfl
theorem putsL_len : ∀ (l W : List Cel), (putsL W l).length ≤ W.length + l.length
  | [], W => by simp [putsL]
  | x :: l, W => by
    have h1 := putsL_len l (putL W x)
    have h2 := putL_len W x
    have : putsL W (x :: l) = putsL (putL W x) l := rfl
    rw [this]
    simp
    omega
def vwrR (W l : List Cel) (most : Int) : List Cel × Int := if most < (putsL W l).length then (W, 4) else (putsL W l, 0)
theorem vwrite_ok {q : Int} {R : List Spn} {W l : List Cel} (hR : R.length ≤ 1000000) (hW : W.length ≤ 1000000) (hl : l.length ≤ 1000000) {most : Int} :
    FnOk Tryz.prog 229 [vVw q R W, vCl l, vI .i64 most] [] (.tup [eVw q R (vwrR W l most).1, .c (.t (.int .i64 (vwrR W l most).2))]) [] := by
  have hown := own_ok (s := q) (R := R) (W := W) (by omega) (by omega)
  refine FnOk.start t229 rfl rfl rfl ?_
  refine Tri.seq (Tri.go [] rfl trivial ?_)
  refine Tri.seq (Tri.tree (.f [] hown .nil) rfl ⟨trivial, by simp [leVs, leP, leE, leL, leC], ?_⟩)
  refine Tri.mid (fun ρ hl => hl = [bxV q R W, .box [.t (.int .u64 0), .t .nil, .t .nil], bxV q R (putsL W l)] ∧
    keepE ρ [2, 3, 6, 7, 8] = some [(2, vI .i64 most), (3, vC (.ptr 0 0)), (6, vC (.ptr 1 0)), (7, vI .i64 0), (8, vC (.ptr 2 0))]) ?_ ?_
  · refine Tri.seq (Tri.go [] rfl trivial ?_)
    refine Tri.block ?_
    refine Tri.lp (fun z ρ hl => ∃ i, z = l.length - i ∧ i ≤ l.length ∧ hl = [bxV q R W, .box [.t (.int .u64 0), .t .nil, .t .nil], bxV q R (putsL W (l.take i))] ∧
      keepE ρ [2, 3, 6, 7, 8, 13, 14, 15] = some [(2, vI .i64 most), (3, vC (.ptr 0 0)), (6, vC (.ptr 1 0)), (7, vI .i64 0), (8, vC (.ptr 2 0)), (13, vCl l), (14, vI .i64 l.length), (15, vI .i64 i)]) l.length ⟨0, by omega, by omega, rfl, keep_of rfl rfl⟩ ?_
    rintro z ρ hl' ⟨i, rfl, hi, rfl, hkk⟩
    refine Tri.keep _ hkk ?_
    by_cases h : i < l.length
    · have hg := rwC_get h
      have hsx := putsL_succ (W := W) h
      have hln := putsL_len (l.take i) W
      have htl : (l.take i).length ≤ l.length := by rw [List.length_take]; omega
      generalize l[i] = x at *
      generalize putsL W (l.take i) = W' at *
      have hput := bput_ok (l := W') (by omega) (c := x)
      refine Tri.seq (Tri.go [] rfl trivial (Tri.seq (Tri.go [.b 16 true] rfl ⟨decide_eq_true (by omega), trivial⟩ ?_)))
      refine Tri.seq (Tri.block (Tri.seq (Tri.tree (.a (.at [.int .i64 x.1, .int .i64 x.2.1, .int .u16 x.2.2]) .nil) rfl ⟨⟨by omega, rfl, hg⟩, by simp, ?_⟩)))
      refine Tri.tree (.f [] hput .nil) rfl ⟨trivial, by simp [leVs, leP, leE, leL, leC], ?_⟩
      refine Tri.let [0, 1, 2] [] [2, 3, 6, 7, 8, 13, 14, 15] rfl trivial ?_
      exact Tri.go [] rfl ⟨by omega, trivial⟩ (again (l.length - (i + 1)) (by omega) ⟨i + 1, rfl, by omega, by rw [hsx], keep_of rfl (by simp)⟩)
    · have : i = l.length := by omega
      subst this
      rw [List.take_length]
      exact Tri.seq (Tri.go [] rfl trivial (Tri.seq (Tri.go [.b 16 false] rfl ⟨decide_eq_false (by omega), trivial⟩ (And.intro rfl (keep_of rfl rfl)))))
  rintro ρ hl' ⟨rfl, hkk⟩
  refine Tri.keep _ hkk ?_
  unfold vwrR
  by_cases h : most < (putsL W l).length
  · rw [if_pos h]
    refine Tri.seq (Tri.tree (.a (.b 29 true) (.f [] hown .nil)) rfl ⟨decide_eq_true h, trivial, by simp [leVs, leP, leE, leL, leC], ?_⟩)
    exact RetQ.le [] [] rfl ⟨trivial, trivial⟩ (.refl _) (.refl _)
  · rw [if_neg h]
    refine Tri.seq (Tri.tree (.a (.b 29 false) .nil) rfl ⟨decide_eq_false h, ?_⟩)
    refine Tri.treeR .nil rfl ?_
    simp [leP, leE, leEs, leL, leC]
end Go.Proofs.YthddlkhfkncgpaaGreat

set_option maxRecDepth 100000
set_option maxHeartbeats 1000000
set_option linter.unusedVariables false
set_option linter.unusedSimpArgs false
namespace Go.Proofs.YthddlkhfkncgpaaGreat
open Go.RowKit

theorem LeMs.modify {a b : List D} (h : LeDs a b) : ∀ (l : List (Nat × Int × List D)) (j : Nat), LeMs (l.modify j fun e => (e.1, e.2.1, a)) (l.modify j fun e => (e.1, e.2.1, b))
  | [], j => by simp; exact .nil
  | (s, k, d) :: l, 0 => by simp; exact .cons h (LeMs.refl l)
  | (s, k, d) :: l, j + 1 => by simp; exact .cons (LeDs.refl d) (LeMs.modify h l j)
theorem LeMs.snoc {s : Nat} {k : Int} {a b : List D} (h : LeDs a b) : ∀ (l : List (Nat × Int × List D)), LeMs (l ++ [(s, k, a)]) (l ++ [(s, k, b)])
  | [] => .cons h .nil
  | (s, k, d) :: l => .cons (LeDs.refl d) (LeMs.snoc h l)
theorem Mp.set_le {ag : Bool} {m : Mp} {k : Int} {a b : List D} (h : LeDs a b) : Ob.le (.mp ag (m.set k a)) (.mp ag (m.set k b)) := by
  unfold Mp.set
  split
  · exact .mp (LeMs.modify h _ _)
  · exact .mp (LeMs.snoc h _)
/-- What a transaction sees, has read, and writes. -/
structure Vw where
  q : Int
  R : List Spn
  W : List Cel
def vds (v : Vw) : List D := [.int .u64 v.q, lSp v.R, lCl v.W]
/-- The transactions that are open, by their owners. -/
structure Mo where
  ck : Nat
  es : List (Nat × Int × Vw)
def moE (e : Nat × Int × Vw) : Nat × Int × List D := (e.1, e.2.1, vds e.2.2)
def Mo.mp (b : Mo) : Mp := ⟨b.ck, b.es.map moE⟩
def Mo.at (b : Mo) (k : Int) : Nat := b.es.findIdx fun e => e.2.1 == k
def Mo.get (b : Mo) (k : Int) : Option Vw := (b.es[b.at k]?).map (·.2.2)
def Mo.set (b : Mo) (k : Int) (v : Vw) : Mo := if b.at k < b.es.length then ⟨b.ck, b.es.modify (b.at k) fun e => (e.1, e.2.1, v)⟩ else ⟨b.ck + 1, b.es ++ [(b.ck, k, v)]⟩
def Mo.del (b : Mo) (k : Int) : Mo := ⟨b.ck, b.es.eraseIdx (b.at k)⟩
theorem Mo.at_eq (b : Mo) (k : Int) : b.mp.at k = b.at k := by
  unfold Mp.at Mo.at Mo.mp
  rw [List.findIdx_map]
  rfl
theorem Mo.get_eq (b : Mo) (k : Int) : b.mp.get k = (b.get k).map vds := by
  unfold Mp.get Mo.get
  rw [Mo.at_eq]
  simp [Mo.mp, moE]
  cases b.es[b.at k]? <;> rfl
theorem Mo.set_eq (b : Mo) (k : Int) (v : Vw) : b.mp.set k (vds v) = (b.set k v).mp := by
  unfold Mp.set Mo.set
  rw [Mo.at_eq]
  have : b.mp.es.length = b.es.length := by simp [Mo.mp]
  rw [this]
  split
  · simp only [Mo.mp, Mp.mk.injEq, true_and]
    apply List.ext_getElem?
    intro i
    simp [List.getElem?_modify]
    cases b.es[i]? with
    | none => rfl
    | some e => by_cases h : b.at k = i <;> simp [h, moE]
  · simp [Mo.mp, moE]
theorem Mo.del_eq (b : Mo) (k : Int) : b.mp.del k = (b.del k).mp := by
  unfold Mp.del Mo.del
  rw [Mo.at_eq]
  simp only [Mo.mp, Mp.mk.injEq, true_and]
  apply List.ext_getElem?
  intro i
  simp [List.getElem?_eraseIdx]
  split <;> rfl
theorem Mo.len (b : Mo) : b.mp.es.length = b.es.length := by simp [Mo.mp]
/-- The engine's limits. -/
structure En where
  most : Int
  spans : Int
  writes : Int
abbrev enB (e : En) : Ob := .box [.ptr 1 0, .t (.int .i64 e.most), .t (.int .i64 e.spans), .t (.int .i64 e.writes), .mp 3]
abbrev eM (M : Mo) : Ob := .mp true M.mp
abbrev eO (e : En) (s : St) (M : Mo) : List Ob := [enB e, stB s 2, stM s, eM M]
theorem eO_set (e : En) (s : St) (M : Mo) (k : Int) (v : Vw) : eO e s (M.set k v) = [enB e, stB s 2, stM s, .mp true (M.mp.set k (vds v))] := by
  show [enB e, stB s 2, stM s, .mp true (M.set k v).mp] = _
  rw [Mo.set_eq]
theorem eO_del (e : En) (s : St) (M : Mo) (k : Int) : eO e s (M.del k) = [enB e, stB s 2, stM s, .mp true (M.mp.del k)] := by
  show [enB e, stB s 2, stM s, .mp true (M.del k).mp] = _
  rw [Mo.del_eq]
theorem eNew_ok {s : St} {a b c : Int} : FnOk Tryz.prog 60 [vC (.ptr 0 0), vI .i64 a, vI .i64 b, vI .i64 c] [stB s 1, stM s] (vC (.ptr 2 0)) [stB s 1, stM s, .box [.ptr 0 0, .t (.int .i64 (max a 0)), .t (.int .i64 (max b 0)), .t (.int .i64 (max c 0)), .mp 3], .mp true ⟨0, []⟩] := by
  refine FnOk.tree t60 (.a (.call [0, 1, 3, 2] [] .u []) .nil) rfl rfl rfl rfl ?_
  have e : ∀ x : Int, (if x < 0 then 0 else x) = max x 0 := fun x => by split <;> omega
  simp [leVs, leP, leE, leC, e]
  exact .refl _
theorem eStore_ok {e : En} {s : St} {M : Mo} : FnOk Tryz.prog 26 [vC (.ptr 0 0)] (eO e s M) (vC (.ptr 1 0)) (eO e s M) := by
  refine FnOk.tree t26 (.a (.call [0, 1, 2, 3] [] .u []) .nil) rfl rfl rfl rfl ?_
  exact ⟨trivial, .refl _, leP_refl _⟩
def begR (e : En) (s : St) (M : Mo) (k : Int) : Int × Mo :=
  if (M.get k).isSome then (6, M) else if e.most ≤ M.es.length then (4, M) else (0, M.set k ⟨s.last, [], []⟩)
theorem begin_ok {e : En} {s : St} {M : Mo} {k : Int} : FnOk Tryz.prog 221 [vC (.ptr 0 0), vI .i64 k] (eO e s M) (vI .i64 (begR e s M k).1) (eO e s (begR e s M k).2) := by
  have hg := M.get_eq k
  unfold begR
  cases h : M.get k with
  | some v =>
    obtain ⟨q, R, W⟩ := v
    rw [h] at hg
    refine FnOk.tree t221 (.a (.mp (some [.int .u64 q, lSp R, lCl W])) (.a (.call [0, 1, 2, 3] [] .u []) .nil)) rfl rfl rfl rfl ?_
    exact ⟨⟨hg, rfl⟩, trivial, .refl _, leP_refl _⟩
  | none =>
    rw [h] at hg
    have hL := sLast_ok (s := s)
    rw [if_neg (by simp)]
    by_cases hm : e.most ≤ M.es.length
    · rw [if_pos hm]
      refine FnOk.tree t221 (.a (.mp none) (.a (.b 26 true) (.a (.call [0, 1, 2, 3] [] .u []) .nil))) rfl rfl rfl rfl ?_
      exact ⟨hg, trivial, decide_eq_true (by rw [Mo.len]; exact hm), trivial, .refl _, leP_refl _⟩
    · rw [if_neg hm]
      refine FnOk.tree t221 (.a (.mp none) (.a (.b 26 false) (.o [1, 2] [] hL (.a (.call [0, 1, 2, 3] [] .u []) .nil)))) rfl rfl rfl rfl ?_
      refine ⟨hg, trivial, decide_eq_false (by rw [Mo.len]; exact hm), trivial, by simp [leVs, leP, leE, leC], rfl, trivial, trivial, ?_, leP_refl _⟩
      rw [eO_set]
      exact .cons (.refl _) (.cons (.refl _) (.cons (.refl _) (.cons (Mp.set_le (.cons (.refl _) (.cons (.nil 3) (.cons (.nil 3) .nil)))) .nil)))
def keepR (M : Mo) (k : Int) (v : Vw) (err : Int) : Mo := if err = 0 then M.set k v else M.del k
theorem keep_ok {e : En} {s : St} {M : Mo} {k err : Int} {q : Int} {R : List Spn} {W : List Cel} : FnOk Tryz.prog 225 [vC (.ptr 0 0), vI .i64 k, vVw q R W, vI .i64 err] (eO e s M) (vI .i64 err) (eO e s (keepR M k ⟨q, R, W⟩ err)) := by
  unfold keepR
  by_cases h : err = 0
  · subst h
    rw [if_pos rfl]
    refine FnOk.tree t225 (.a (.b 10 false) (.a (.call [0, 1, 2, 3] [] .u []) .nil)) rfl rfl rfl rfl ?_
    refine ⟨rfl, trivial, trivial, .of ?_, leP_refl _⟩
    rw [eO_set]
    rfl
  · rw [if_neg h]
    refine FnOk.tree t225 (.a (.b 10 true) (.a (.call [0, 1, 2, 3] [] .u []) .nil)) rfl rfl rfl rfl ?_
    refine ⟨by simpa using h, trivial, trivial, .of ?_, leP_refl _⟩
    rw [eO_del]
theorem abort_ok {e : En} {s : St} {M : Mo} {k : Int} : FnOk Tryz.prog 81 [vC (.ptr 0 0), vI .i64 k] (eO e s M) (vB (M.get k).isSome) (eO e s (M.del k)) := by
  have hg := M.get_eq k
  cases h : M.get k with
  | some v =>
    obtain ⟨q, R, W⟩ := v
    rw [h] at hg
    refine FnOk.tree t81 (.a (.mp (some [.int .u64 q, lSp R, lCl W])) (.a (.call [0, 1, 2, 3] [] .u []) .nil)) rfl rfl rfl rfl ?_
    refine ⟨⟨hg, rfl⟩, trivial, trivial, .of ?_, leP_refl _⟩
    rw [eO_del]
  | none =>
    rw [h] at hg
    refine FnOk.tree t81 (.a (.mp none) (.a (.call [0, 1, 2, 3] [] .u []) .nil)) rfl rfl rfl rfl ?_
    refine ⟨hg, trivial, trivial, .of ?_, leP_refl _⟩
    rw [eO_del]
structure VwOk (v : Vw) : Prop where
  R : v.R.length ≤ 1000000
  W : v.W.length ≤ 1000000
  rs : ∀ x ∈ v.R, SpB x
  ws : ∀ c ∈ v.W, CeB c
def vwR (o : Option Vw) : V := match o with
  | some v => .tup [eVw v.q v.R v.W, .c (.t (.bool true))]
  | none => .tup [eVw 0 [] [], .c (.t (.bool false))]
theorem eView_ok {e : En} {s : St} {M : Mo} {k : Int} (hv : ∀ v, M.get k = some v → VwOk v) : FnOk Tryz.prog 32 [vC (.ptr 0 0), vI .i64 k] (eO e s M) (vwR (M.get k)) (eO e s M) := by
  have hg := M.get_eq k
  cases h : M.get k with
  | some v =>
    have hok := hv v h
    obtain ⟨q, R, W⟩ := v
    rw [h] at hg
    refine FnOk.tree t32 (.a (.mp (some [.int .u64 q, lSp R, lCl W])) (.o [] [] (cloneS_ok (l := R) (by have := hok.R; simp at this; omega)) (.o [] [] (cloneC_ok (l := W) (by have := hok.W; simp at this; omega)) (.a (.call [0, 1, 2, 3] [6, 7] .u []) .nil)))) rfl rfl rfl rfl ?_
    refine ⟨⟨hg, rfl⟩, trivial, by simp [leVs, leP, leE, leC], rfl, trivial, by simp [leVs, leP, leE, leC], rfl, ?_⟩
    exact ⟨⟨by simp, by simp, trivial, trivial⟩, .refl _, by simp [vwR, leP, leE, leEs, leL, leC, rwS, rwC]⟩
  | none =>
    rw [h] at hg
    refine FnOk.tree t32 (.a (.mp none) (.o [] [] (cloneS_ok (l := []) (by simp)) (.o [] [] (cloneC_ok (l := []) (by simp)) (.a (.call [0, 1, 2, 3] [6, 7] .u []) .nil)))) rfl rfl rfl rfl ?_
    refine ⟨hg, trivial, by simp [leVs, leP, leE, leL, leC, rwS], rfl, trivial, by simp [leVs, leP, leE, leL, leC, rwC], rfl, ?_⟩
    exact ⟨⟨by simp, by simp, trivial, trivial⟩, .refl _, by simp [vwR, leP, leE, leEs, leL, leC, rwS, rwC]⟩
end Go.Proofs.YthddlkhfkncgpaaGreat

set_option maxRecDepth 100000
set_option maxHeartbeats 1000000
set_option linter.unusedVariables false
set_option linter.unusedSimpArgs false
namespace Go.Proofs.YthddlkhfkncgpaaGreat
open Go.RowKit

theorem Mo.at_lt {M : Mo} {k : Int} {v : Vw} (h : M.get k = some v) : ∃ hlt : M.at k < M.es.length, M.es[M.at k].2.1 = k ∧ M.es[M.at k].2.2 = v := by
  unfold Mo.get at h
  obtain ⟨e, h1, h2⟩ := Option.map_eq_some_iff.1 h
  obtain ⟨hlt, he⟩ := List.getElem?_eq_some_iff.1 h1
  refine ⟨hlt, ?_, by rw [he]; exact h2⟩
  have : (M.es[M.at k].2.1 == k) = true := List.findIdx_getElem (w := hlt)
  simpa using this
theorem Mo.set_self {M : Mo} {k : Int} {v : Vw} (h : M.get k = some v) : M.set k v = M := by
  obtain ⟨hlt, h1, h2⟩ := Mo.at_lt h
  unfold Mo.set
  rw [if_pos hlt]
  show Mo.mk _ _ = Mo.mk M.ck M.es
  congr 1
  apply List.ext_getElem?
  intro i
  rw [List.getElem?_modify]
  by_cases hi : M.at k = i
  · subst hi
    simp [hlt, ← h2]
  · simp [hi]
theorem Mo.at_set {M : Mo} {k : Int} {u v : Vw} (h : M.get k = some u) : (M.set k v).at k = M.at k := by
  obtain ⟨hlt, h1, h2⟩ := Mo.at_lt h
  unfold Mo.set
  rw [if_pos hlt]
  unfold Mo.at
  have : ∀ (l : List (Nat × Int × Vw)) (j : Nat), List.findIdx (fun e => e.2.1 == k) (l.modify j fun e => (e.1, e.2.1, v)) = List.findIdx (fun e => e.2.1 == k) l := by
    intro l
    induction l with
    | nil => intro j; simp
    | cons e l ih =>
      intro j
      cases j with
      | zero => simp [List.findIdx_cons]
      | succ j => simp [List.findIdx_cons, ih j]
  exact this _ _
theorem Mo.get_set {M : Mo} {k : Int} {u v : Vw} (h : M.get k = some u) : (M.set k v).get k = some v := by
  have ha := Mo.at_set (v := v) h
  obtain ⟨hlt, h1, h2⟩ := Mo.at_lt h
  unfold Mo.get
  rw [ha]
  unfold Mo.set
  rw [if_pos hlt]
  simp [List.getElem?_modify, hlt]
theorem Mo.set_set {M : Mo} {k : Int} {u v x : Vw} (h : M.get k = some u) : (M.set k v).set k x = M.set k x := by
  have ha := Mo.at_set (v := v) h
  obtain ⟨hlt, h1, h2⟩ := Mo.at_lt h
  have hl : (M.set k v).es.length = M.es.length := by unfold Mo.set; rw [if_pos hlt]; simp
  have e1 : (M.set k v).set k x = ⟨(M.set k v).ck, (M.set k v).es.modify (M.at k) fun e => (e.1, e.2.1, x)⟩ := by
    rw [← ha]
    unfold Mo.set
    exact if_pos (by have : (M.set k v).at k < (M.set k v).es.length := by rw [ha, hl]; exact hlt
                     exact this)
  rw [e1]
  unfold Mo.set
  rw [if_pos hlt, if_pos hlt]
  simp only [Mo.mk.injEq, true_and]
  apply List.ext_getElem?
  intro i
  simp only [List.getElem?_modify]
  by_cases hi : M.at k = i
  · subst hi
    simp [hlt]
  · simp [hi]
theorem Mo.get_set_ne {M : Mo} {k j : Int} {v : Vw} (h : j ≠ k) : (M.set k v).get j = M.get j := by
  have hidx : ∀ (l : List (Nat × Int × Vw)) (i : Nat), List.findIdx (fun e => e.2.1 == j) (l.modify i fun e => (e.1, e.2.1, v)) = List.findIdx (fun e => e.2.1 == j) l := by
    intro l
    induction l with
    | nil => intro i; simp
    | cons e l ih =>
      intro i
      cases i with
      | zero => simp [List.findIdx_cons]
      | succ i => simp [List.findIdx_cons, ih i]
  unfold Mo.set
  split
  · rename_i hlt
    unfold Mo.get
    have ha : (⟨M.ck, M.es.modify (M.at k) fun e => (e.1, e.2.1, v)⟩ : Mo).at j = M.at j := hidx _ _
    rw [ha, List.getElem?_modify]
    have hne : ∀ e, M.es[M.at j]? = some e → M.at k ≠ M.at j := fun e he hkj => by
      have h1 : (M.es[M.at k].2.1 == k) = true := List.findIdx_getElem (w := hlt)
      obtain ⟨hl, he'⟩ := List.getElem?_eq_some_iff.1 he
      have h2 : (M.es[M.at j].2.1 == j) = true := List.findIdx_getElem (w := hl)
      simp only [hkj] at h1
      have h1 : M.es[M.at j].2.1 = k := by simpa using h1
      have h2 : M.es[M.at j].2.1 = j := by simpa using h2
      exact h (h2.symm.trans h1)
    cases he : M.es[M.at j]? with
    | none => simp
    | some e => simp [hne e he]
  · unfold Mo.get Mo.at
    simp only
    rw [List.findIdx_append]
    by_cases hlt : List.findIdx (fun e : Nat × Int × Vw => e.2.1 == j) M.es < M.es.length
    · rw [if_pos hlt, List.getElem?_append_left hlt]
    · rw [if_neg hlt]
      have hkj : (k == j) = false := by simpa using Ne.symm h
      have e1 : List.findIdx (fun e : Nat × Int × Vw => e.2.1 == j) [(M.ck, k, v)] = 1 := by simp [List.findIdx_cons, hkj]
      rw [e1, List.getElem?_eq_none (by simp; omega), List.getElem?_eq_none (by omega)]
theorem Mo.get_del_ne {M : Mo} {k j : Int} (h : j ≠ k) : (M.del k).get j = M.get j := by
  have key : ∀ (l : List (Nat × Int × Vw)), ((l.eraseIdx (l.findIdx fun e => e.2.1 == k))[(l.eraseIdx (l.findIdx fun e => e.2.1 == k)).findIdx fun e => e.2.1 == j]?).map (·.2.2) = (l[l.findIdx fun e => e.2.1 == j]?).map (·.2.2) := by
    intro l
    induction l with
    | nil => rfl
    | cons e l ih =>
      rw [List.findIdx_cons]
      by_cases hk : e.2.1 = k
      · have h1 : (e.2.1 == k) = true := by simpa using hk
        have h2 : (e.2.1 == j) = false := by simpa [hk] using Ne.symm h
        rw [h1, cond_true, List.eraseIdx_cons_zero, List.findIdx_cons, h2, cond_false, List.getElem?_cons_succ]
      · have h1 : (e.2.1 == k) = false := by simpa using hk
        rw [h1, cond_false, List.eraseIdx_cons_succ, List.findIdx_cons, List.findIdx_cons]
        by_cases hj : e.2.1 = j
        · have h2 : (e.2.1 == j) = true := by simpa using hj
          rw [h2]
          rfl
        · have h2 : (e.2.1 == j) = false := by simpa using hj
          rw [h2]
          simpa using ih
  exact key M.es
theorem Mo.get_set_eq {M : Mo} {k : Int} {v : Vw} : (M.set k v).get k = some v := by
  cases h : M.get k with
  | some u => exact Mo.get_set h
  | none =>
    have hnl : ¬ M.at k < M.es.length := fun hl => by unfold Mo.get at h; rw [List.getElem?_eq_getElem hl] at h; cases h
    unfold Mo.set
    rw [if_neg hnl]
    unfold Mo.get Mo.at
    simp only
    have hge : List.findIdx (fun e : Nat × Int × Vw => e.2.1 == k) M.es = M.es.length := by have := @List.findIdx_le_length _ (fun e : Nat × Int × Vw => e.2.1 == k) M.es; unfold Mo.at at hnl; omega
    rw [List.findIdx_append, hge, if_neg (by omega)]
    simp
end Go.Proofs.YthddlkhfkncgpaaGreat

set_option maxRecDepth 100000
set_option maxHeartbeats 1000000
set_option linter.unusedVariables false
set_option linter.unusedSimpArgs false
namespace Go.Proofs.YthddlkhfkncgpaaGreat
open Go.RowKit

def readR (e : En) (s : St) (M : Mo) (k : Int) (sp : Spn) : List Int × Int × Mo :=
  if spnR sp = false then ([], 1, M) else match M.get k with
    | none => ([], 5, M)
    | some v => ((vrdR s.L v.q v.R v.W sp e.spans).2.1, (vrdR s.L v.q v.R v.W sp e.spans).2.2, keepR M k ⟨v.q, (vrdR s.L v.q v.R v.W sp e.spans).1, v.W⟩ (vrdR s.L v.q v.R v.W sp e.spans).2.2)
abbrev vWE (l : List Int) (err : Int) : V := .tup [.c (.t (lI .u16 l)), .c (.t (.int .i64 err))]
theorem eRead_ok {e : En} {s : St} {M : Mo} {k : Int} {sp : Spn} (hs : StOk s) (hv : ∀ v, M.get k = some v → VwOk v) : FnOk Tryz.prog 178 [vC (.ptr 0 0), vI .i64 k, vS3 sp] (eO e s M) (vWE (readR e s M k sp).1 (readR e s M k sp).2.1) (eO e s (readR e s M k sp).2.2) := by
  have hg := M.get_eq k
  have hsr := sRight_ok (s := sp)
  unfold readR
  cases hb : spnR sp with
  | false =>
    rw [hb] at hsr
    rw [if_pos rfl]
    refine FnOk.tree t178 (.f [] hsr (.a (.call [0, 1, 2, 3] [] .u []) .nil)) rfl rfl rfl rfl ?_
    exact ⟨trivial, by simp [leVs, leP, leE, leL, leC], trivial, .refl _, by simp [leP, leE, leEs, leL, leC, rI]⟩
  | true =>
    rw [hb] at hsr
    rw [if_neg (by simp)]
    cases h : M.get k with
    | none =>
      rw [h] at hg
      refine FnOk.tree t178 (.f [] hsr (.a (.mp none) (.a (.call [0, 1, 2, 3] [] .u []) .nil))) rfl rfl rfl rfl ?_
      exact ⟨trivial, by simp [leVs, leP, leE, leL, leC], hg, trivial, .refl _, by simp [leP, leE, leEs, leL, leC, rI]⟩
    | some v =>
      have hok := hv v h
      obtain ⟨q, R, W⟩ := v
      rw [h] at hg
      have hspb : SpB sp := by
        simp [spnR] at hb
        omega
      have hvr := vread_ok hs (q := q) (R := R) (W := W) (sp := sp) (most := e.spans) hok.R hok.W hok.ws hspb
      simp only
      generalize vrdR s.L q R W sp e.spans = r at *
      obtain ⟨R', ws, err⟩ := r
      have hk := keep_ok (e := e) (s := s) (M := M) (k := k) (err := err) (q := q) (R := R') (W := W)
      refine FnOk.tree t178 (.f [] hsr (.a (.mp (some [.int .u64 q, lSp R, lCl W])) (.o [1, 2] [] hvr (.o [0, 1, 2, 3] [] hk (.a (.call [0, 1, 2, 3] [] .u []) .nil))))) rfl rfl rfl rfl ?_
      exact ⟨trivial, by simp [leVs, leP, leE, leL, leC], ⟨hg, rfl⟩, trivial, by simp [leVs, leP, leE, leL, leC], rfl, trivial, by simp [leVs, leP, leE, leL, leC], rfl, trivial, .refl _, leP_refl _⟩
def writeR (e : En) (M : Mo) (k : Int) (l : List Cel) : Int × Mo :=
  if mayL l = false then (1, M) else match M.get k with
    | none => (5, M)
    | some v => ((vwrR v.W l e.writes).2, keepR M k ⟨v.q, v.R, (vwrR v.W l e.writes).1⟩ (vwrR v.W l e.writes).2)
theorem eWrite_ok {e : En} {s : St} {M : Mo} {k : Int} {l : List Cel} (hl : l.length ≤ 1000000) (hv : ∀ v, M.get k = some v → VwOk v) : FnOk Tryz.prog 181 [vC (.ptr 0 0), vI .i64 k, vCl l] (eO e s M) (vI .i64 (writeR e M k l).1) (eO e s (writeR e M k l).2) := by
  have hg := M.get_eq k
  have hm := may_ok (l := l) (by omega)
  unfold writeR
  cases hb : mayL l with
  | false =>
    rw [hb] at hm
    rw [if_pos rfl]
    refine FnOk.tree t181 (.f [] hm (.a (.call [0, 1, 2, 3] [] .u []) .nil)) rfl rfl rfl rfl ?_
    exact ⟨trivial, by simp [leVs, leP, leE, leL, leC], trivial, .refl _, leP_refl _⟩
  | true =>
    rw [hb] at hm
    rw [if_neg (by simp)]
    cases h : M.get k with
    | none =>
      rw [h] at hg
      refine FnOk.tree t181 (.f [] hm (.a (.mp none) (.a (.call [0, 1, 2, 3] [] .u []) .nil))) rfl rfl rfl rfl ?_
      exact ⟨trivial, by simp [leVs, leP, leE, leL, leC], hg, trivial, .refl _, leP_refl _⟩
    | some v =>
      have hok := hv v h
      obtain ⟨q, R, W⟩ := v
      rw [h] at hg
      have hvr := vwrite_ok (q := q) (R := R) (W := W) (l := l) (most := e.writes) hok.R hok.W hl
      simp only
      generalize vwrR W l e.writes = r at *
      obtain ⟨W', err⟩ := r
      have hk := keep_ok (e := e) (s := s) (M := M) (k := k) (err := err) (q := q) (R := R) (W := W')
      refine FnOk.tree t181 (.f [] hm (.a (.mp (some [.int .u64 q, lSp R, lCl W])) (.f [] hvr (.o [0, 1, 2, 3] [] hk (.a (.call [0, 1, 2, 3] [] .u []) .nil))))) rfl rfl rfl rfl ?_
      exact ⟨trivial, by simp [leVs, leP, leE, leL, leC], ⟨hg, rfl⟩, trivial, by simp [leVs, leP, leE, leL, leC], trivial, by simp [leVs, leP, leE, leL, leC], rfl, trivial, .refl _, leP_refl _⟩
def comR (s : St) (M : Mo) (k : Int) : Int × Int × St × Mo := match M.get k with
  | none => (0, 5, s, M)
  | some v => if v.W.length = 0 then (v.q, 0, s, M.del k) else if (clashS s.L v.q v.R).isSome then (0, 7, s, M.del k) else ((instR s v.W).1, (instR s v.W).2.1, (instR s v.W).2.2, M.del k)
structure StGo (s : St) : Prop where
  len : s.L.length ≤ 100000000
  ch : ChOk 100000000 s.L
  last : 0 ≤ s.last ∧ s.last ≤ 18446744073709551615
  n : 0 ≤ s.n ∧ s.n ≤ 100000000
  most : 0 ≤ s.most ∧ s.most ≤ 100000000
theorem StGo.ok {s : St} (h : StGo s) : StOk s := ⟨by have := h.len; omega, fun e he => by have := h.ch e he; omega⟩
theorem commit_ok {e : En} {s : St} {M : Mo} {k : Int} (hs : StGo s) (hv : ∀ v, M.get k = some v → VwOk v) : FnOk Tryz.prog 222 [vC (.ptr 0 0), vI .i64 k] (eO e s M) (vPair (comR s M k).1 (comR s M k).2.1) (eO e (comR s M k).2.2.1 (comR s M k).2.2.2) := by
  have hg := M.get_eq k
  unfold comR
  cases h : M.get k with
  | none =>
    rw [h] at hg
    refine FnOk.tree t222 (.a (.mp none) (.a (.call [0, 1, 2, 3] [] .u []) .nil)) rfl rfl rfl rfl ?_
    exact ⟨hg, trivial, .refl _, leP_refl _⟩
  | some v =>
    have hok := hv v h
    obtain ⟨q, R, W⟩ := v
    rw [h] at hg
    simp only
    by_cases hw : W.length = 0
    · rw [if_pos hw]
      refine FnOk.tree t222 (.a (.mp (some [.int .u64 q, lSp R, lCl W])) (.a (.b 30 true) (.a (.call [0, 1, 2, 3] [] .u []) .nil))) rfl rfl rfl rfl ?_
      refine ⟨⟨hg, rfl⟩, trivial, trivial, by simp [hw], trivial, .of ?_, leP_refl _⟩
      rw [eO_del]
    · rw [if_neg hw]
      have hf := fresh_ok hs.ok (R := R) (q := q) (by have := hok.R; simp at this; omega) hok.rs
      cases hc : (clashS s.L q R).isSome with
      | true =>
        rw [hc] at hf
        rw [if_pos rfl]
        refine FnOk.tree t222 (.a (.mp (some [.int .u64 q, lSp R, lCl W])) (.a (.b 30 false) (.o [1, 2] [] hf (.a (.call [0, 1, 2, 3] [] .u []) .nil)))) rfl rfl rfl rfl ?_
        refine ⟨⟨hg, rfl⟩, trivial, trivial, by simpa using hw, trivial, by simp [leVs, leP, leE, leL, leC], rfl, trivial, .of ?_, leP_refl _⟩
        rw [eO_del]
      | false =>
        rw [hc] at hf
        rw [if_neg (by simp)]
        have hi := inst_ok hs.len hs.ch hs.last hs.n hs.most (l := W) (by have := hok.W; simp at this; omega)
        generalize instR s W = r at *
        obtain ⟨a, b, s'⟩ := r
        refine FnOk.tree t222 (.a (.mp (some [.int .u64 q, lSp R, lCl W])) (.a (.b 30 false) (.o [1, 2] [] hf (.a (.call [1, 2] [] (vPair a b) [stB s' 1, stM s']) (.a (.call [0, 1, 2, 3] [] .u []) .nil))))) rfl rfl rfl rfl ?_
        refine ⟨⟨hg, rfl⟩, trivial, trivial, by simpa using hw, trivial, by simp [leVs, leP, leE, leL, leC], rfl, trivial, hi, trivial, .of ?_, leP_refl _⟩
        rw [eO_del]
end Go.Proofs.YthddlkhfkncgpaaGreat
