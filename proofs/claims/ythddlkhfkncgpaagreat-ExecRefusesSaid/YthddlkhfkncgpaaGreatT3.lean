/-
  Views' lists: copies, Put, Right, may.
-/
import Derived.Test.YthddlkhfkncgpaaGreatT2
import Derived.Test.YthddlkhfkncgpaaGreatT0p
set_option maxRecDepth 100000
set_option maxHeartbeats 1000000
set_option linter.unusedVariables false
set_option linter.unusedSimpArgs false
namespace Go.Proofs.YthddlkhfkncgpaaGreat
open Go.RowKit

abbrev vVw (s : Int) (R : List Spn) (W : List Cel) : V := .e (.agg [.t (.int .u64 s), .t (lSp R), .t (lCl W)])
theorem cloneC_ok {l : List Cel} (hl : l.length ≤ 1000000000) : FnOk Tryz.prog 79 [vCl l] [] (vC (.sl 0 0 l.length)) [.arr 3 (rwC l)] := by
  refine FnOk.start t79 rfl rfl rfl ?_
  refine Tri.seq (Tri.go [] rfl trivial ?_)
  refine Tri.mid (fun ρ hl => hl = [] ∧ keepE ρ [0] = some [(0, vCl l)]) ?_ ?_
  · have hm : OpS Tryz.prog 8 (.mv (.tmp 0)) [(2, vD .nil), (0, vCl l)] [] { v := vCl l } := ⟨by simp [Res.ids], fun o ho => aop_ok ho rfl trivial⟩
    refine Tri.seq (Tri.regionN (Rgn.step (OpN.of hm) ?_))
    rintro s rfl
    refine Rgn.step (OpN.eqNilL (n := l.length) (r := rwC l) rfl) ?_
    rintro s ⟨b, rfl, hb⟩
    cases b with
    | false => exact Tri.go [] rfl trivial (And.intro rfl (keep_of rfl rfl))
    | true =>
      have : l = [] := List.length_eq_zero_iff.1 (hb rfl)
      subst this
      refine Tri.cond rfl (fun _ => ?_) (fun h => by cases h)
      refine Tri.seq (Tri.go [] rfl trivial ?_)
      refine Tri.own 2 3 (by omega) rfl ?_
      exact Tri.ret (RetQ.le [0] [] rfl trivial (.refl _) (.refl _))
  rintro ρ hl' ⟨rfl, hkk⟩
  refine Tri.keep _ hkk ?_
  refine Tri.treeR (.w (.a (.call [1] [] .u []) .nil)) rfl ⟨trivial, ⟨.inr rfl, rfl, rfl, by simp, by omega, by omega⟩, trivial, .of (by simp [List.take_of_length_le]), by simp [leP, leE, leC]⟩
theorem cloneS_ok {l : List Spn} (hl : l.length ≤ 1000000000) : FnOk Tryz.prog 78 [vSp l] [] (vC (.sl 0 0 l.length)) [.arr 3 (rwS l)] := by
  refine FnOk.start t78 rfl rfl rfl ?_
  refine Tri.seq (Tri.go [] rfl trivial ?_)
  refine Tri.mid (fun ρ hl => hl = [] ∧ keepE ρ [0] = some [(0, vSp l)]) ?_ ?_
  · have hm : OpS Tryz.prog 8 (.mv (.tmp 0)) [(2, vD .nil), (0, vSp l)] [] { v := vSp l } := ⟨by simp [Res.ids], fun o ho => aop_ok ho rfl trivial⟩
    refine Tri.seq (Tri.regionN (Rgn.step (OpN.of hm) ?_))
    rintro s rfl
    refine Rgn.step (OpN.eqNilL (n := l.length) (r := rwS l) rfl) ?_
    rintro s ⟨b, rfl, hb⟩
    cases b with
    | false => exact Tri.go [] rfl trivial (And.intro rfl (keep_of rfl rfl))
    | true =>
      have : l = [] := List.length_eq_zero_iff.1 (hb rfl)
      subst this
      refine Tri.cond rfl (fun _ => ?_) (fun h => by cases h)
      refine Tri.seq (Tri.go [] rfl trivial ?_)
      refine Tri.own 2 3 (by omega) rfl ?_
      exact Tri.ret (RetQ.le [0] [] rfl trivial (.refl _) (.refl _))
  rintro ρ hl' ⟨rfl, hkk⟩
  refine Tri.keep _ hkk ?_
  refine Tri.treeR (.w (.a (.call [1] [] .u []) .nil)) rfl ⟨trivial, ⟨.inr rfl, rfl, rfl, by simp, by omega, by omega⟩, trivial, .of (by simp [List.take_of_length_le]), by simp [leP, leE, leC]⟩
theorem own_ok {s : Int} {R : List Spn} {W : List Cel} (hR : R.length ≤ 1000000000) (hW : W.length ≤ 1000000000) : FnOk Tryz.prog 259 [vVw s R W] [] (vVw s R W) [] := by
  refine FnOk.tree t259 (.o [] [] (cloneS_ok hR) (.o [] [] (cloneC_ok hW) (.a (.call [] [2, 3] .u []) .nil))) rfl rfl rfl rfl ?_
  simp [leVs, leP, leE, leL, leC]
  exact ⟨rfl, .nil⟩
theorem mod_set3 {rows : List (List D)} {i : Nat} {v : List D} (hv : v.length = 3) (h : ∀ r ∈ rows, r.length = 3) : rows.modify i (fun r => putAt r 0 v) = rows.set i v := by
  apply List.ext_getElem?
  intro j
  rw [List.getElem?_modify, List.getElem?_set]
  by_cases hij : i = j
  · subst hij
    cases hr : rows[i]? with
    | none => simp [List.getElem?_eq_none_iff.1 hr]
    | some r =>
      have hl := h r (List.mem_of_getElem? hr)
      have hlt := (List.getElem?_eq_some_iff.1 hr).1
      have hpv : putAt r 0 v = v := by
        match r, v, hl, hv with
        | [a, b, c], [d, e, f], _, _ => rfl
      simp [hlt, hpv]
  · simp [hij]
theorem rwC_three (l : List Cel) : ∀ r ∈ rwC l, r.length = 3 := fun r hr => by
  obtain ⟨o, _, rfl⟩ := List.mem_map.1 hr
  rfl
theorem findL_hit {l : List Cel} {t a : Int} (h : hitL l t a = true) : findL l t a < l.length := by
  unfold hitL at h
  split at h
  · rename_i h'; exact (List.getElem?_eq_some_iff.1 h').1
  · cases h
theorem mod_mid {α : Type} (f : α → α) (z : α) (S : List α) : ∀ (P : List α), (P ++ z :: S).modify P.length f = P ++ f z :: S
  | [] => by simp
  | a :: P => by simp [mod_mid f z S P]
/-- A row laid in between. -/
theorem ins_rows {X : List (List D)} {i n : Nat} {z v : List D} (hn : X.length = n) (hi : i ≤ n) (hz : putAt z 0 v = v) :
    List.take (i + 1) ((List.take (min i (n + 1)) (List.take i X) ++ List.replicate (n + 1 - min i (n + 1)) z).modify i fun r => putAt r 0 v) ++
      (List.take (n - i) (List.take (n - i) (List.drop i X)) ++ List.drop (i + 1 + (n - i)) ((List.take (min i (n + 1)) (List.take i X) ++ List.replicate (n + 1 - min i (n + 1)) z).modify i fun r => putAt r 0 v)) = List.take i X ++ v :: List.drop i X := by
  have hA : List.take (min i (n + 1)) (List.take i X) ++ List.replicate (n + 1 - min i (n + 1)) z = List.take i X ++ z :: List.replicate (n - i) z := by
    rw [List.take_take, show min (min i (n + 1)) i = i by omega, show n + 1 - min i (n + 1) = (n - i) + 1 by omega, List.replicate_succ]
  have hlt : (List.take i X).length = i := by rw [List.length_take]; omega
  have hB := mod_mid (fun r => putAt r 0 v) z (List.replicate (n - i) z) (List.take i X)
  rw [hlt] at hB
  rw [hA, hB, hz]
  have h1 : List.take (i + 1) (List.take i X ++ v :: List.replicate (n - i) z) = List.take i X ++ [v] := by
    rw [List.take_append, List.take_of_length_le (by omega), hlt, show i + 1 - i = 1 by omega]
    rfl
  have h2 : List.drop (i + 1 + (n - i)) (List.take i X ++ v :: List.replicate (n - i) z) = [] := List.drop_eq_nil_of_le (by simp; omega)
  rw [h1, h2, List.take_take, List.take_of_length_le (l := List.drop i X) (by rw [List.length_drop]; omega), List.append_nil, List.append_assoc]
  rfl
theorem bput_ok {l : List Cel} (hl : l.length ≤ 100000000) {c : Cel} : FnOk Tryz.prog 268 [vCl l, vC3 c] [] (vCl (putL l c)) [] := by
  have hf := bfind_ok (l := l) (by omega) (t := c.1) (a := c.2.1)
  have hfl := findL_le l c.1 c.2.1
  have hh := findL_hit (l := l) (t := c.1) (a := c.2.1)
  unfold putL
  generalize findL l c.1 c.2.1 = i at *
  cases hb : hitL l c.1 c.2.1 with
  | true =>
    rw [hb] at hf
    have := hh hb
    refine FnOk.tree t268 (.f [] hf (.o [] [] (cloneC_ok (l := l) (by omega)) (.a (.call [] [1] .u []) .nil))) rfl rfl rfl rfl ?_
    have e : (rwC l).modify i (fun r => putAt r 0 [.int .i64 c.1, .int .i64 c.2.1, .int .u16 c.2.2]) = rwC (List.take i l ++ c :: List.drop (i + 1) l) := by
      rw [mod_set3 rfl (rwC_three l), List.set_eq_take_append_cons_drop, if_pos (by simpa using this)]
      simp [rwC, List.map_take, List.map_drop]
    simp [leVs, leP, leE, leL, leC]
    exact ⟨rfl, this, .nil, by omega, .inl e⟩
  | false =>
    rw [hb] at hf
    refine FnOk.tree t268 (.f [] hf (.a (.call [] [1] .u []) .nil)) rfl rfl rfl rfl ?_
    have e := ins_rows (X := rwC l) (i := i) (n := l.length) (z := [.int .i64 0, .int .i64 0, .int .u16 0]) (v := [.int .i64 c.1, .int .i64 c.2.1, .int .u16 c.2.2]) (by simp) hfl rfl
    have e2 : List.take i (rwC l) ++ [.int .i64 c.1, .int .i64 c.2.1, .int .u16 c.2.2] :: List.drop i (rwC l) = rwC (List.take i l ++ c :: List.drop i l) := by simp [rwC, List.map_take, List.map_drop]
    rw [e2] at e
    simp [leVs, leP, leE, leL, leC]
    exact ⟨by omega, by omega, by omega, by omega, by omega, by omega, by omega, by omega, by omega, by omega, by omega, .nil, by omega, .inl e⟩
end Go.Proofs.YthddlkhfkncgpaaGreat
