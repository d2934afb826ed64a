/-
  Cells by their keys: the document's buffer; cells by numbers.
-/
import Derived.Test.YthddlkhfkncgpaaGreatT0
set_option maxRecDepth 100000
set_option maxHeartbeats 1000000
set_option linter.unusedVariables false
set_option linter.unusedSimpArgs false
namespace Go.Proofs.YthddlkhfkncgpaaGreat
open Go.RowKit

/-- Of a temporary less may be told. -/
theorem Tri.wk {P : Program} {N n0 : Nat} {ρ : Env} {hl : List Ob} {Q : Exit → Env → List Ob → Prop} {c : AC} (t : Nat) {v v' : V} (ht : get ρ t = some v) (hv : V.le v v') (h : Tri P N n0 c ((t, v') :: ρ) hl Q) : Tri P N n0 c ρ hl Q := by
  intro code hc w0 g0 h0 df a w ⟨h1, h2, h3, g, hR, hμ, he, hF⟩
  refine h code hc w0 g0 h0 df a w ⟨h1, h2, h3, g, hR, hμ, fun u x hx => ?_, hF⟩
  simp only [get] at hx
  by_cases hu : t = u
  · subst hu
    simp at hx
    subst hx
    exact (he t _ ht).le hv
  · rw [beqF hu] at hx
    exact he u x hx
/-- A cell: table, address, value. -/
abbrev Cel := Int × Int × Int
def rwC (l : List Cel) : List (List D) := l.map fun c => [.int .i64 c.1, .int .i64 c.2.1, .int .u16 c.2.2]
@[simp] theorem rwC_len (l : List Cel) : (rwC l).length = l.length := by simp [rwC]
theorem rwC_get {l : List Cel} {i : Nat} (h : i < l.length) : (rwC l)[i]? = some [.int .i64 l[i].1, .int .i64 l[i].2.1, .int .u16 l[i].2.2] := by simp [rwC, h]
theorem rwC_app (l m : List Cel) : rwC l ++ rwC m = rwC (l ++ m) := by simp [rwC]
theorem rwC_take (l : List Cel) (n : Nat) : (rwC l).take n = rwC (l.take n) := by simp [rwC, List.map_take]
theorem rwC_drop (l : List Cel) (n : Nat) : (rwC l).drop n = rwC (l.drop n) := by simp [rwC, List.map_drop]
abbrev lCl (l : List Cel) : D := .ls 3 l.length (rwC l)
abbrev vCl (l : List Cel) : V := vD (lCl l)
abbrev vK (t a : Int) : V := .e (.agg [.t (.int .i64 t), .t (.int .i64 a)])
abbrev vC3 (c : Cel) : V := .e (.agg [.t (.int .i64 c.1), .t (.int .i64 c.2.1), .t (.int .u16 c.2.2)])
def lessK (t a u b : Int) : Bool := decide (t < u) || (t == u && decide (a < b))
theorem i64_wrap {x : Int} (h : b64 x) : IntKind.i64.wrap x = x := by
  simp only [b64] at h
  simp [IntKind.wrap, IntKind.bits, IntKind.signed]
  omega
theorem lessK_ok {t a u b : Int} : FnOk Tryz.prog 252 [vK t a, vK u b] [] (vB (lessK t a u b)) [] := by
  by_cases h1 : t < u
  · exact FnOk.tree t252 (.a (.b 10 true) .nil) rfl rfl rfl rfl (by simp [leP, leE, leC, lessK, h1])
  by_cases h2 : t = u
  · exact FnOk.tree t252 (.a (.b 10 false) (.a (.b 16 true) .nil)) rfl rfl rfl rfl (by simp [leP, leE, leC, lessK, h1, h2])
  · exact FnOk.tree t252 (.a (.b 10 false) (.a (.b 16 false) .nil)) rfl rfl rfl rfl (by simp [leP, leE, leC, lessK, h1, h2])
def bsF (p : Nat → Bool) : Nat → Nat → Nat → Nat
  | 0, lo, _ => lo
  | f + 1, lo, hi => if lo < hi then (if p ((lo + hi) / 2) then bsF p f ((lo + hi) / 2 + 1) hi else bsF p f lo ((lo + hi) / 2)) else lo
theorem bsF_le (p : Nat → Bool) : ∀ (f lo hi : Nat), lo ≤ hi → bsF p f lo hi ≤ hi
  | 0, lo, hi, h => h
  | f + 1, lo, hi, h => by
    unfold bsF
    split
    · split
      · exact bsF_le p f _ _ (by omega)
      · have := bsF_le p f lo ((lo + hi) / 2) (by omega)
        omega
    · exact h
def belK (l : List Cel) (t a : Int) (i : Nat) : Bool := lessK (l.getD i default).1 (l.getD i default).2.1 t a
/-- Where a key is, or would be. -/
def findL (l : List Cel) (t a : Int) : Nat := bsF (belK l t a) l.length 0 l.length
theorem findL_le (l : List Cel) (t a : Int) : findL l t a ≤ l.length := bsF_le _ _ _ _ (by omega)
def hitL (l : List Cel) (t a : Int) : Bool := match l[findL l t a]? with
  | some c => c.1 == t && c.2.1 == a
  | none => false
def getL (l : List Cel) (t a : Int) : Int × Bool := match l[findL l t a]? with
  | some c => if c.1 == t && c.2.1 == a then (c.2.2, true) else (0, false)
  | none => (0, false)
theorem find16_ok {l : List Cel} (hl : l.length ≤ 1000000000) {t a : Int} : FnOk Tryz.prog 193 [vCl l, vK t a] [] (.tup [.c (.t (.int .i64 (findL l t a))), .c (.t (.bool (hitL l t a)))]) [] := by
  refine FnOk.start t193 rfl rfl rfl ?_
  refine Tri.seq (Tri.go [] rfl trivial ?_)
  refine Tri.seq (Tri.go [] rfl trivial ?_)
  refine Tri.mid (fun ρ hl => hl = [.box [.t (.int .i64 t), .t (.int .i64 a)]] ∧ keepE ρ [0, 3, 6] = some [(0, vCl l), (3, vC (.ptr 0 0)), (6, vI .i64 (findL l t a))]) ?_ ?_
  · refine Tri.block ?_
    refine Tri.lp (fun q ρ hl => ∃ lo hi f : Nat, q = hi - lo ∧ lo ≤ hi ∧ hi ≤ l.length ∧ hi - lo ≤ f ∧ bsF (belK l t a) f lo hi = findL l t a ∧ hl = [.box [.t (.int .i64 t), .t (.int .i64 a)]] ∧
      keepE ρ [0, 3, 6, 7] = some [(0, vCl l), (3, vC (.ptr 0 0)), (6, vI .i64 lo), (7, vI .i64 hi)]) l.length ⟨0, l.length, l.length, by omega, by omega, by omega, by omega, rfl, rfl, keep_of rfl rfl⟩ ?_
    rintro q ρ hl' ⟨lo, hi, f, rfl, h1, h2, h3, he, rfl, hkk⟩
    refine Tri.keep _ hkk ?_
    by_cases h : lo < hi
    · obtain ⟨f, rfl⟩ : ∃ g, f = g + 1 := ⟨f - 1, by omega⟩
      unfold bsF at he
      rw [if_pos h] at he
      have hm : ((lo : Int) + hi).tdiv 2 = ((lo + hi) / 2 : Nat) := by rw [Int.tdiv_eq_ediv_of_nonneg (by omega)]; omega
      have hml : (lo + hi) / 2 < l.length := by omega
      have hg := rwC_get hml
      have hb : belK l t a ((lo + hi) / 2) = lessK l[(lo + hi) / 2].1 l[(lo + hi) / 2].2.1 t a := by unfold belK; simp [List.getD_eq_getElem?_getD, hml]
      rw [hb] at he
      generalize l[(lo + hi) / 2] = c at *
      generalize hM : (lo + hi) / 2 = M at *
      have hless := lessK_ok (t := c.1) (a := c.2.1) (u := t) (b := a)
      refine Tri.seq (Tri.go [.b 13 true] rfl ⟨decide_eq_true (by omega), trivial⟩ ?_)
      cases hle : lessK c.1 c.2.1 t a with
      | true =>
        rw [hle] at he hless
        simp only [if_true] at he
        refine Tri.block (Tri.seq (Tri.go [] rfl ?_ (Tri.seq (Tri.tree (.a (.at [.int .i64 c.1, .int .i64 c.2.1, .int .u16 c.2.2]) (.f [] hless .nil)) rfl ?_))))
        · exact ⟨by omega, by omega, trivial⟩
        rw [hm, i64_wrap (by simp only [b64]; omega)]
        refine ⟨⟨by omega, rfl, hg⟩, by simp, trivial, by simp [leVs, leP, leE, leL, leC], ?_⟩
        exact Tri.go [] rfl ⟨by omega, trivial⟩ ⟨hi - (M + 1), by omega, M + 1, hi, f, rfl, by omega, by omega, by omega, he, rfl, keep_of rfl (by simp)⟩
      | false =>
        rw [hle] at he hless
        simp only [Bool.false_eq_true, if_false] at he
        refine Tri.block (Tri.seq (Tri.go [] rfl ?_ (Tri.seq (Tri.tree (.a (.at [.int .i64 c.1, .int .i64 c.2.1, .int .u16 c.2.2]) (.f [] hless .nil)) rfl ?_))))
        · exact ⟨by omega, by omega, trivial⟩
        rw [hm, i64_wrap (by simp only [b64]; omega)]
        refine ⟨⟨by omega, rfl, hg⟩, by simp, trivial, by simp [leVs, leP, leE, leL, leC], ?_⟩
        exact Tri.go [] rfl trivial ⟨M - lo, by omega, lo, M, f, rfl, by omega, by omega, by omega, he, rfl, keep_of rfl (by simp)⟩
    · have : lo = hi := by omega
      subst this
      have he' : bsF (belK l t a) f lo lo = lo := by cases f <;> simp [bsF]
      rw [he'] at he
      exact Tri.seq (Tri.tree (.a (.b 13 false) .nil) rfl ⟨decide_eq_false (by omega), rfl, keep_of rfl (by simp [he])⟩)
  rintro ρ hl' ⟨rfl, hkk⟩
  refine Tri.keep _ hkk ?_
  have hfl := findL_le l t a
  unfold hitL
  generalize findL l t a = i at *
  by_cases h : i < l.length
  · have hg := rwC_get h
    rw [List.getElem?_eq_getElem h]
    generalize l[i] = c at *
    refine Tri.treeR (.a (.b 33 true) (.a (.at [.int .i64 c.1, .int .i64 c.2.1, .int .u16 c.2.2]) .nil)) rfl ?_
    simp [leP, leE, leEs, leC]
    exact ⟨h, hg⟩
  · rw [List.getElem?_eq_none (by omega)]
    refine Tri.treeR (.a (.b 33 false) .nil) rfl ?_
    simp [leP, leE, leEs, leC]
    omega
def putL (l : List Cel) (c : Cel) : List Cel := l.take (findL l c.1 c.2.1) ++ c :: l.drop (findL l c.1 c.2.1 + if hitL l c.1 c.2.1 then 1 else 0)
theorem putL_len (l : List Cel) (c : Cel) : (putL l c).length ≤ l.length + 1 := by
  have := findL_le l c.1 c.2.1
  unfold putL
  simp
  split <;> omega
theorem put16_ok {l : List Cel} (hl : l.length ≤ 1000000000) {c : Cel} : FnOk Tryz.prog 151 [vCl l, vC3 c] [] (vCl (putL l c)) [] := by
  have hf := find16_ok (l := l) hl (t := c.1) (a := c.2.1)
  have hfl := findL_le l c.1 c.2.1
  have hh : hitL l c.1 c.2.1 = true → findL l c.1 c.2.1 < l.length := by
    unfold hitL
    split
    · rename_i h
      intro _
      exact (List.getElem?_eq_some_iff.1 h).1
    · simp
  unfold putL
  generalize findL l c.1 c.2.1 = i at *
  cases hb : hitL l c.1 c.2.1 with
  | true =>
    rw [hb] at hf
    have := hh hb
    refine FnOk.tree t151 (.f [] hf (.a (.call [] [3] .u []) .nil)) rfl rfl rfl rfl ?_
    have e : List.take i (List.take i (rwC l)) ++ [.int .i64 c.1, .int .i64 c.2.1, .int .u16 c.2.2] :: List.take (l.length - (i + 1)) (List.take (l.length - (i + 1)) (List.drop (i + 1) (rwC l))) = rwC (List.take i l ++ c :: List.drop (i + 1) l) := by
      rw [List.take_take, List.take_take, List.take_of_length_le (l := List.drop _ _) (by simp)]
      simp [rwC, List.map_take, List.map_drop]
    simp [leVs, leP, leE, leL, leC]
    exact ⟨by omega, by omega, by omega, by omega, by omega, by omega, by omega, .nil, by omega, .inl e⟩
  | false =>
    rw [hb] at hf
    refine FnOk.tree t151 (.f [] hf (.a (.call [] [3] .u []) .nil)) rfl rfl rfl rfl ?_
    have e : List.take i (List.take i (rwC l)) ++ [.int .i64 c.1, .int .i64 c.2.1, .int .u16 c.2.2] :: List.take (l.length - i) (List.take (l.length - i) (List.drop i (rwC l))) = rwC (List.take i l ++ c :: List.drop i l) := by
      rw [List.take_take, List.take_take, List.take_of_length_le (l := List.drop _ _) (by simp)]
      simp [rwC, List.map_take, List.map_drop]
    simp [leVs, leP, leE, leL, leC]
    exact ⟨by omega, by omega, by omega, by omega, by omega, by omega, .nil, by omega, .inl e⟩
def keyG (k : Int) : Int × Int := (k % 4, if dig k 64 16 = 0 then 65535 - dig k 4 16 else dig k 4 16)
def cellG (k : Int) : Cel := ((keyG k).1, (keyG k).2, if (keyG k).1 < 2 then dig k 1024 65536 % 2 else dig k 1024 65536)
def cellsG (ks : List Int) (n : Nat) : List Cel := (ks.take n).foldl (fun l k => putL l (cellG k)) []
theorem cellsG_succ {ks : List Int} {n : Nat} (h : n < ks.length) : cellsG ks (n + 1) = putL (cellsG ks n) (cellG ks[n]) := by
  unfold cellsG
  rw [← List.take_append_getElem h, List.foldl_append]
  rfl
theorem cellsG_len (ks : List Int) : ∀ n : Nat, (cellsG ks n).length ≤ n
  | 0 => by simp [cellsG]
  | n + 1 => by
    by_cases h : n < ks.length
    · rw [cellsG_succ h]
      have := putL_len (cellsG ks n) (cellG ks[n])
      have := cellsG_len ks n
      omega
    · have : cellsG ks (n + 1) = cellsG ks n := by unfold cellsG; rw [List.take_of_length_le (by omega), List.take_of_length_le (by omega)]
      rw [this]
      have := cellsG_len ks n
      omega
end Go.Proofs.YthddlkhfkncgpaaGreat
