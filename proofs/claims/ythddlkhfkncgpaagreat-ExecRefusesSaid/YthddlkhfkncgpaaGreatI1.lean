/-
  Who the device is: last, place, among, Level, Answer.
-/
import Derived.Test.YthddlkhfkncgpaaGreatM31
import Derived.Test.YthddlkhfkncgpaaGreatM32
set_option maxRecDepth 100000
set_option maxHeartbeats 1000000
set_option linter.unusedVariables false
set_option linter.unusedSimpArgs false
namespace Go.Proofs.YthddlkhfkncgpaaGreat
open Go.RowKit

abbrev vO (o : Obj) : V := .e (.agg [.t (.int .i64 o.1), .t (.str o.2)])
def lastN (c : Int) : Int := if c = 1 then 2 else if c = 2 then 127 else 255
theorem last_ok {c : Int} (h : c = 1 ∨ c = 2 ∨ c = 3) : FnOk Tryz.prog 215 [vI .i64 c] [] (vI .i64 (lastN c)) [] := by
  rcases h with rfl | rfl | rfl
  all_goals
    refine FnOk.tree t215 .nil rfl rfl rfl rfl ?_
    simp [leP, leE, leC, lastN]
theorem place1_ok {x : Int} {o : Obj} : FnOk Tryz.prog 217 [vO o, vC (.ptr 0 0)] [.box [.t (.int .i64 x)]] (vB (o.1 == x)) [.box [.t (.int .i64 x)]] := by
  refine FnOk.tree t217 (.a (.call [0] [] .u []) .nil) rfl rfl rfl rfl ⟨trivial, .refl _, leP_refl _⟩
theorem among1_ok {x : Int} (h : x = 1 ∨ x = 2 ∨ x = 3) {o : Obj} : FnOk Tryz.prog 219 [vO o, vC (.ptr 0 0)] [.box [.t (.int .i64 x)]] (vB (decide (lastN x < o.1))) [.box [.t (.int .i64 x)]] := by
  have hL := last_ok h
  refine FnOk.tree t219 (.f [] hL (.a (.call [0] [] .u []) .nil)) rfl rfl rfl rfl ⟨trivial, by simp [leVs, leP, leE, leC], trivial, .refl _, leP_refl _⟩
/-- Where the first one is of which p holds. -/
def idxF (p : Obj → Bool) : Nat → List Obj → Int
  | _, [] => -1
  | i, o :: l => if p o then (i : Int) else idxF p (i + 1) l
theorem idxF_cons (p : Obj → Bool) (i : Nat) (o : Obj) (l : List Obj) : idxF p i (o :: l) = if p o then (i : Int) else idxF p (i + 1) l := rfl
theorem indexFunc_ok {f : FuncId} {x : Int} {p : Obj → Bool} (hp : ∀ o, FnOk Tryz.prog f [vO o, vC (.ptr 0 0)] [.box [.t (.int .i64 x)]] (vB (p o)) [.box [.t (.int .i64 x)]]) {l : List Obj} (hl : l.length ≤ 1000000000000) :
    FnOk Tryz.prog 216 [vD (lO l), vC (.fn f [.ptr 0 0])] [.box [.t (.int .i64 x)]] (vI .i64 (idxF p 0 l)) [.box [.t (.int .i64 x)]] := by
  refine FnOk.start t216 rfl rfl rfl ?_
  refine Tri.seq (Tri.go [] rfl trivial ?_)
  refine Tri.mid (fun ρ hl => hl = [.box [.t (.int .i64 x)]] ∧ idxF p 0 l = -1 ∧ keepE ρ [0] = some [(0, vD (lO l))]) ?_ ?_
  · refine Tri.seq (Tri.go [] rfl trivial ?_)
    refine Tri.block ?_
    refine Tri.lp (fun q ρ hl => ∃ i, q = l.length - i ∧ i ≤ l.length ∧ idxF p 0 l = idxF p i (l.drop i) ∧ hl = [.box [.t (.int .i64 x)]] ∧ keepE ρ [0, 1, 7, 8] = some [(0, vD (lO l)), (1, vC (.fn f [.ptr 0 0])), (7, vI .i64 l.length), (8, vI .i64 i)]) l.length ⟨0, by omega, by omega, rfl, rfl, keep_of rfl rfl⟩ ?_
    rintro q ρ hl' ⟨i, rfl, hi, he, rfl, hkk⟩
    refine Tri.keep _ hkk ?_
    by_cases h : i < l.length
    · have hg := oRows_get h
      rw [List.drop_eq_getElem_cons h] at he
      generalize l[i] = o at *
      rw [idxF_cons] at he
      have hpo := hp o
      cases hpb : p o with
      | true =>
        rw [hpb] at he hpo
        refine Tri.seq (Tri.go [] rfl trivial (Tri.seq (Tri.go [.b 9 true] rfl ⟨decide_eq_true (by omega), trivial⟩ ?_)))
        refine Tri.tree (.a (.at [.int .i64 o.1, .str o.2]) (.a (.call [0] [] (vB true) [.box [.t (.int .i64 x)]]) .nil)) rfl ⟨⟨by omega, rfl, hg⟩, by simp, trivial, hpo, ?_⟩
        rw [he, if_pos rfl]
        exact RetQ.le [0] [] rfl trivial (.refl _) (.refl _)
      | false =>
        rw [hpb] at he hpo
        refine Tri.seq (Tri.go [] rfl trivial (Tri.seq (Tri.go [.b 9 true] rfl ⟨decide_eq_true (by omega), trivial⟩ ?_)))
        refine Tri.seq (Tri.block (Tri.tree (.a (.at [.int .i64 o.1, .str o.2]) (.a (.call [0] [] (vB false) [.box [.t (.int .i64 x)]]) .nil)) rfl ⟨⟨by omega, rfl, hg⟩, by simp, trivial, hpo, ?_⟩))
        refine Tri.go [] rfl ⟨by omega, trivial⟩ (again (l.length - (i + 1)) (by omega) ⟨i + 1, rfl, by omega, by simpa using he, rfl, keep_of rfl (by simp)⟩)
    · have : i = l.length := by omega
      subst this
      rw [List.drop_length] at he
      exact Tri.seq (Tri.go [] rfl trivial (Tri.seq (Tri.go [.b 9 false] rfl ⟨decide_eq_false (by omega), trivial⟩ (And.intro rfl (And.intro he (keep_of rfl rfl))))))
  rintro ρ hl' ⟨rfl, he, hkk⟩
  refine Tri.keep _ hkk ?_
  rw [he]
  exact Tri.treeR (.a (.call [0] [] .u []) .nil) rfl ⟨trivial, .refl _, leP_refl _⟩
/-- .. of a list of one's own. -/
theorem indexFuncO_ok {f : FuncId} {x : Int} {p : Obj → Bool} (hp : ∀ o, FnOk Tryz.prog f [vO o, vC (.ptr 0 0)] [.box [.t (.int .i64 x)]] (vB (p o)) [.box [.t (.int .i64 x)]]) {l : List Obj} (hl : l.length ≤ 1000000000000) :
    FnOk Tryz.prog 216 [vC (.sl 0 0 l.length), vC (.fn f [.ptr 1 0])] [.arr 2 (oRows l), .box [.t (.int .i64 x)]] (vI .i64 (idxF p 0 l)) [.arr 2 (oRows l), .box [.t (.int .i64 x)]] := by
  refine FnOk.start t216 rfl rfl rfl ?_
  refine Tri.seq (Tri.go [] rfl trivial ?_)
  refine Tri.mid (fun ρ hl => hl = [.arr 2 (oRows l), .box [.t (.int .i64 x)]] ∧ idxF p 0 l = -1 ∧ keepE ρ [0] = some [(0, vC (.sl 0 0 l.length))]) ?_ ?_
  · refine Tri.seq (Tri.go [] rfl trivial ?_)
    refine Tri.block ?_
    refine Tri.lp (fun q ρ hl => ∃ i, q = l.length - i ∧ i ≤ l.length ∧ idxF p 0 l = idxF p i (l.drop i) ∧ hl = [.arr 2 (oRows l), .box [.t (.int .i64 x)]] ∧ keepE ρ [0, 1, 7, 8] = some [(0, vC (.sl 0 0 l.length)), (1, vC (.fn f [.ptr 1 0])), (7, vI .i64 l.length), (8, vI .i64 i)]) l.length ⟨0, by omega, by omega, rfl, rfl, keep_of rfl rfl⟩ ?_
    rintro q ρ hl' ⟨i, rfl, hi, he, rfl, hkk⟩
    refine Tri.keep _ hkk ?_
    by_cases h : i < l.length
    · have hg := oRows_get h
      rw [List.drop_eq_getElem_cons h] at he
      generalize l[i] = o at *
      rw [idxF_cons] at he
      have hpo := hp o
      cases hpb : p o with
      | true =>
        rw [hpb] at he hpo
        refine Tri.seq (Tri.go [] rfl trivial (Tri.seq (Tri.go [.b 9 true] rfl ⟨decide_eq_true (by omega), trivial⟩ ?_)))
        refine Tri.tree (.a (.at [.int .i64 o.1, .str o.2]) (.a (.call [1] [] (vB true) [.box [.t (.int .i64 x)]]) .nil)) rfl ⟨⟨by omega, by omega, rfl⟩, by simpa using hg, by simp, hpo, ?_⟩
        rw [he, if_pos rfl]
        exact RetQ.le [0, 1] [] rfl trivial (.refl _) (.refl _)
      | false =>
        rw [hpb] at he hpo
        refine Tri.seq (Tri.go [] rfl trivial (Tri.seq (Tri.go [.b 9 true] rfl ⟨decide_eq_true (by omega), trivial⟩ ?_)))
        refine Tri.seq (Tri.block (Tri.tree (.a (.at [.int .i64 o.1, .str o.2]) (.a (.call [1] [] (vB false) [.box [.t (.int .i64 x)]]) .nil)) rfl ⟨⟨by omega, by omega, rfl⟩, by simpa using hg, by simp, hpo, ?_⟩))
        refine Tri.go [] rfl ⟨by omega, trivial⟩ (again (l.length - (i + 1)) (by omega) ⟨i + 1, rfl, by omega, by simpa using he, rfl, keep_of rfl (by simp)⟩)
    · have : i = l.length := by omega
      subst this
      rw [List.drop_length] at he
      exact Tri.seq (Tri.go [] rfl trivial (Tri.seq (Tri.go [.b 9 false] rfl ⟨decide_eq_false (by omega), trivial⟩ (And.intro rfl (And.intro he (keep_of rfl rfl))))))
  rintro ρ hl' ⟨rfl, he, hkk⟩
  refine Tri.keep _ hkk ?_
  rw [he]
  exact Tri.treeR (.a (.call [0, 1] [] .u []) .nil) rfl ⟨trivial, .refl _, leP_refl _⟩
theorem idenPlace_ok {l : List Obj} (hl : l.length ≤ 1000000000000) {x : Int} : FnOk Tryz.prog 168 [vD (lO l), vI .i64 x] [] (vI .i64 (idxF (fun o => o.1 == x) 0 l)) [] := by
  have h := indexFunc_ok (fun o => place1_ok (x := x) (o := o)) hl
  refine FnOk.tree t168 (.o [0] [] h .nil) rfl rfl rfl rfl ⟨trivial, trivial, by simp [leVs, leP, leE, leC], rfl, trivial, rfl, leP_refl _⟩
theorem clone_ok {l : List Obj} (hl : l.length ≤ 1000000000) : FnOk Tryz.prog 170 [vD (lO l)] [] (vC (.sl 0 0 l.length)) [.arr 2 (oRows l)] := by
  refine FnOk.start t170 rfl rfl rfl ?_
  refine Tri.seq (Tri.go [] rfl trivial ?_)
  refine Tri.mid (fun ρ hl => hl = [] ∧ keepE ρ [0] = some [(0, vD (lO l))]) ?_ ?_
  · have hm : OpS Tryz.prog 8 (.mv (.tmp 0)) [(2, vD .nil), (0, vD (lO l))] [] { v := vD (lO l) } := ⟨by simp [Res.ids], fun o ho => aop_ok ho rfl trivial⟩
    refine Tri.seq (Tri.regionN (Rgn.step (OpN.of hm) ?_))
    rintro s rfl
    refine Rgn.step (OpN.eqNilL (n := l.length) (r := oRows l) rfl) ?_
    rintro s ⟨b, rfl, hb⟩
    cases b with
    | false => exact Tri.go [] rfl trivial (And.intro rfl (keep_of rfl rfl))
    | true =>
      have : l = [] := List.length_eq_zero_iff.1 (hb rfl)
      subst this
      refine Tri.cond rfl (fun _ => ?_) (fun h => by cases h)
      refine Tri.seq (Tri.go [] rfl trivial ?_)
      refine Tri.own 2 2 (by omega) rfl ?_
      exact Tri.ret (RetQ.le [0] [] rfl trivial (.refl _) (.refl _))
  rintro ρ hl' ⟨rfl, hkk⟩
  refine Tri.keep _ hkk ?_
  refine Tri.treeR (.w (.a (.call [1] [] .u []) .nil)) rfl ⟨trivial, ⟨.inr rfl, rfl, rfl, by simp, by omega, by omega⟩, trivial, .of (by simp [List.take_of_length_le]), by simp [leP, leE, leC]⟩
def levelL : Int → List Obj → Int
  | lv, [] => lv
  | lv, o :: l => if 127 < o.1 then 131 else if 2 < o.1 then levelL 130 l else levelL lv l
theorem levelL_cons (lv : Int) (o : Obj) (l : List Obj) : levelL lv (o :: l) = if 127 < o.1 then 131 else if 2 < o.1 then levelL 130 l else levelL lv l := rfl
/-- A list without those of which p holds. -/
def zO (n : Nat) : List (List D) := List.replicate n [.int .i64 0, .str ⟨#[]⟩]
def keptO (p : Obj → Bool) (l : List Obj) : List Obj := l.filter fun o => !p o
theorem keptO_len (p : Obj → Bool) (l : List Obj) : (keptO p l).length ≤ l.length := List.length_filter_le _ _
theorem keptO_snoc (p : Obj → Bool) (l : List Obj) (o : Obj) : keptO p (l ++ [o]) = keptO p l ++ (if p o then [] else [o]) := by
  unfold keptO
  rw [List.filter_append]
  cases h : p o <;> simp [h]
theorem idxF_none {p : Obj → Bool} : ∀ {l : List Obj} {i : Nat}, idxF p i l = -1 → ∀ o ∈ l, p o = false
  | [], _, _, o, ho => by cases ho
  | a :: l, i, h, o, ho => by
    rw [idxF_cons] at h
    cases hp : p a with
    | true => rw [hp] at h; simp at h
    | false =>
      rw [hp] at h
      rcases List.mem_cons.1 ho with rfl | ho'
      · exact hp
      · exact idxF_none (by simpa using h) o ho'
theorem idxF_some {p : Obj → Bool} : ∀ {l : List Obj} {i : Nat}, idxF p i l ≠ -1 → ∃ k, ∃ h : k < l.length, idxF p i l = ((i + k : Nat) : Int) ∧ p l[k] = true ∧ ∀ o ∈ l.take k, p o = false
  | [], _, h => absurd rfl h
  | a :: l, i, h => by
    rw [idxF_cons] at h ⊢
    cases hp : p a with
    | true => exact ⟨0, by simp, by simp, by simpa using hp, by simp⟩
    | false =>
      rw [hp] at h
      simp only [Bool.false_eq_true, if_false] at h ⊢
      obtain ⟨k, hk, e1, e2, e3⟩ := idxF_some h
      refine ⟨k + 1, by simp; omega, by rw [e1]; omega, by simpa using e2, fun o ho => ?_⟩
      rw [List.take_succ_cons] at ho
      rcases List.mem_cons.1 ho with rfl | ho'
      · exact hp
      · exact e3 o ho'
theorem oRows_two (l : List Obj) : ∀ r ∈ oRows l, r.length = 2 := fun r hr => by
  obtain ⟨o, _, rfl⟩ := List.mem_map.1 hr
  rfl
theorem mod_set {rows : List (List D)} {i : Nat} {v : List D} (hv : v.length = 2) (h : ∀ r ∈ rows, r.length = 2) : rows.modify i (fun r => putAt r 0 v) = rows.set i v := by
  apply List.ext_getElem?
  intro j
  rw [List.getElem?_modify, List.getElem?_set]
  by_cases hij : i = j
  · subst hij
    cases hr : rows[i]? with
    | none => simp [List.getElem?_eq_none_iff.1 hr]
    | some r =>
      have hl := h r (List.mem_of_getElem? hr)
      have hlt := (List.getElem?_eq_some_iff.1 hr).1
      have hpv : putAt r 0 v = v := by
        match r, v, hl, hv with
        | [a, b], [c, d], _, _ => rfl
      simp [hlt, hpv]
  · simp [hij]
theorem set_take {α : Type} {rows : List α} {i : Nat} {v : α} (h : i < rows.length) : (rows.set i v).take (i + 1) = rows.take i ++ [v] := by
  rw [← List.take_append_getElem (show i < (rows.set i v).length by simpa using h)]
  simp [List.take_set_of_le]
theorem deleteFunc_ok {f : FuncId} {x : Int} {p : Obj → Bool} (hp : ∀ o, FnOk Tryz.prog f [vO o, vC (.ptr 0 0)] [.box [.t (.int .i64 x)]] (vB (p o)) [.box [.t (.int .i64 x)]]) {l : List Obj} (hl : l.length ≤ 1000000000) :
    FnOk Tryz.prog 218 [vC (.sl 0 0 l.length), vC (.fn f [.ptr 1 0])] [.arr 2 (oRows l), .box [.t (.int .i64 x)]] (vC (.sl 0 0 (keptO p l).length)) [.arr 2 (oRows (keptO p l) ++ zO (l.length - (keptO p l).length)), .box [.t (.int .i64 x)]] := by
  have hi := indexFuncO_ok hp (l := l) (by omega)
  refine FnOk.start t218 rfl rfl rfl ?_
  refine Tri.seq (Tri.go [] rfl trivial ?_)
  refine Tri.seq (Tri.tree (.o [0, 1] [] hi .nil) rfl ⟨trivial, by simp [leVs, leP, leE, leC], rfl, ?_⟩)
  by_cases hn : idxF p 0 l = -1
  · have e : keptO p l = l := List.filter_eq_self.2 fun o ho => by simp [idxF_none hn o ho]
    rw [e, hn, Nat.sub_self]
    refine Tri.treeR (.a (.b 12 true) (.a (.call [0, 1] [] .u []) .nil)) rfl ⟨rfl, trivial, .of (by simp [zO]), leP_refl _⟩
  obtain ⟨k, hk, e1, e2, e3⟩ := idxF_some hn
  rw [e1, Nat.zero_add]
  have hkt : keptO p (l.take k) = l.take k := List.filter_eq_self.2 fun o ho => by simp [e3 o ho]
  have hk1 : keptO p (l.take (k + 1)) = l.take k := by rw [← List.take_append_getElem hk, keptO_snoc, hkt, e2]; simp
  refine Tri.seq (Tri.tree (.a (.b 12 false) .nil) rfl ⟨by simp, ?_⟩)
  refine Tri.mid (fun ρ hl => ∃ rows, rows.length = l.length ∧ rows.take (keptO p l).length = oRows (keptO p l) ∧ hl = [.arr 2 rows, .box [.t (.int .i64 x)]] ∧ keepE ρ [0, 5] = some [(0, vC (.sl 0 0 l.length)), (5, vI .i64 (keptO p l).length)]) ?_ ?_
  · refine Tri.seq (Tri.go [] rfl ⟨by omega, trivial⟩ ?_)
    refine Tri.block ?_
    refine Tri.lp (fun q ρ hl => ∃ j rows, q = l.length - j ∧ j ≤ l.length ∧ k < j ∧ rows.length = l.length ∧ (∀ r ∈ rows, r.length = 2) ∧ rows.take (keptO p (l.take j)).length = oRows (keptO p (l.take j)) ∧ rows.drop j = oRows (l.drop j) ∧ (keptO p (l.take j)).length < j ∧ hl = [.arr 2 rows, .box [.t (.int .i64 x)]] ∧
      keepE ρ [0, 1, 5, 6] = some [(0, vC (.sl 0 0 l.length)), (1, vC (.fn f [.ptr 1 0])), (5, vI .i64 (keptO p (l.take j)).length), (6, vI .i64 j)]) (l.length - (k + 1)) ⟨k + 1, oRows l, rfl, by omega, by omega, by simp, oRows_two l, ?_, ?_, ?_, rfl, keep_of rfl ?_⟩ ?_
    · rw [hk1]; simp [oRows, List.map_take]
    · simp [oRows, List.map_drop]
    · rw [hk1]; simp; omega
    · rw [hk1]; simp; omega
    rintro q ρ hl' ⟨j, rows, rfl, hj, hkj, hrl, hr2, hrt, hrd, hlt, rfl, hkk⟩
    refine Tri.keep _ hkk ?_
    by_cases h : j < l.length
    · have hgr : rows[j]? = some [.int .i64 l[j].1, .str l[j].2] := by
        have := oRows_get h
        have h2 : (rows.drop j)[0]? = (oRows (l.drop j))[0]? := by rw [hrd]
        rw [List.getElem?_drop] at h2
        simp only [Nat.add_zero] at h2
        rw [h2]
        simp [oRows, List.getElem?_drop, h]
      have hts : l.take (j + 1) = l.take j ++ [l[j]] := (List.take_append_getElem h).symm
      have hsn := keptO_snoc p (l.take j) l[j]
      rw [← hts] at hsn
      have hpo := hp l[j]
      have hdd : rows.drop (j + 1) = oRows (l.drop (j + 1)) := by
        rw [← List.drop_drop, hrd]
        simp [oRows, List.map_drop]
      generalize l[j] = o at *
      cases hpb : p o with
      | true =>
        rw [hpb] at hpo hsn
        simp only [if_true, List.append_nil] at hsn
        refine Tri.seq (Tri.go [.b 19 true] rfl ⟨decide_eq_true (by omega), trivial⟩ ?_)
        refine Tri.seq (Tri.block (Tri.tree (.a (.at [.int .i64 o.1, .str o.2]) (.a (.call [1] [] (vB true) [.box [.t (.int .i64 x)]]) (.a (.b 29 false) .nil))) rfl ⟨⟨by omega, by omega, rfl⟩, ⟨by simpa using hgr, by simp⟩, trivial, hpo, rfl, ?_⟩))
        refine Tri.let [0, 1] [] [0, 1, 5, 6] rfl trivial ?_
        exact Tri.go [] rfl ⟨by omega, trivial⟩ (again (l.length - (j + 1)) (by omega) ⟨j + 1, rows, rfl, by omega, by omega, hrl, hr2, by rw [hsn]; exact hrt, hdd, by rw [hsn]; omega, rfl, keep_of rfl (by simp [hsn])⟩)
      | false =>
        rw [hpb] at hpo hsn
        simp only [Bool.false_eq_true, if_false] at hsn
        refine Tri.seq (Tri.go [.b 19 true] rfl ⟨decide_eq_true (by omega), trivial⟩ ?_)
        refine Tri.seq (Tri.block (Tri.tree (.a (.at [.int .i64 o.1, .str o.2]) (.a (.call [1] [] (vB false) [.box [.t (.int .i64 x)]]) (.a (.b 29 true) .nil))) rfl ⟨⟨by omega, by omega, rfl⟩, ⟨by simpa using hgr, by simp⟩, trivial, hpo, rfl, ⟨by omega, by omega, rfl⟩, ⟨rfl, by omega, by omega⟩, by omega, ?_⟩))
        have hset := mod_set (rows := rows) (i := (keptO p (l.take j)).length) (v := [.int .i64 o.1, .str o.2]) rfl hr2
        refine Tri.let [0, 1] [] [0, 1, 5, 6] rfl trivial ?_
        refine Tri.go [] rfl ⟨by omega, trivial⟩ (again (l.length - (j + 1)) (by omega) ⟨j + 1, rows.set (keptO p (l.take j)).length [.int .i64 o.1, .str o.2], rfl, by omega, by omega, by simpa using hrl, ?_, ?_, ?_, by rw [hsn]; simp; omega, ?_, keep_of rfl (by simp [hsn])⟩)
        · intro r hr
          rcases List.mem_or_eq_of_mem_set hr with hr | rfl
          · exact hr2 r hr
          · rfl
        · rw [hsn, List.length_append, List.length_singleton, set_take (by omega), hrt]
          simp [oRows]
        · rw [List.drop_set_of_lt (by omega), hdd]
        · simp only [Int.toNat_natCast, Nat.zero_add]
          rw [hset]
    · have : j = l.length := by omega
      subst this
      rw [List.take_length] at *
      exact Tri.seq (Tri.go [.b 19 false] rfl ⟨decide_eq_false (by omega), trivial⟩ ⟨rows, hrl, hrt, rfl, keep_of rfl rfl⟩)
  rintro ρ hl' ⟨rows, hrl, hrt, rfl, hkk⟩
  refine Tri.keep _ hkk ?_
  have hkl := keptO_len p l
  generalize keptO p l = K at *
  refine Tri.treeR (.a (.call [0, 1] [] .u []) .nil) rfl ⟨⟨by simp, by simp; omega, by simp; omega, rfl⟩, ⟨rfl, by simp; omega⟩, ⟨by simp, by simp, by simp; omega, rfl⟩, trivial, .of ?_, by simp [leP, leE, leC]⟩
  simp only [Option.getD_some, Option.getD_none, Int.toNat_natCast, Nat.zero_add]
  rw [hrt, List.drop_eq_nil_of_le (by omega), List.append_nil]
  rfl
theorem level_ok {l : List Obj} (hl : l.length ≤ 1000000000) : FnOk Tryz.prog 167 [vD (lO l)] [] (vI .i64 (levelL 129 l)) [] := by
  have h1 := last_ok (c := 1) (by simp)
  have h2 := last_ok (c := 2) (by simp)
  refine FnOk.start t167 rfl rfl rfl ?_
  refine Tri.seq (Tri.go [] rfl trivial ?_)
  refine Tri.seq (Tri.go [] rfl trivial ?_)
  refine Tri.mid (fun ρ hl => ∃ lv, hl = [] ∧ levelL 129 l = lv ∧ keepE ρ [3] = some [(3, vI .i64 lv)]) ?_ ?_
  · refine Tri.seq (Tri.go [] rfl trivial ?_)
    refine Tri.block ?_
    refine Tri.lp (fun q ρ hl => ∃ i lv, q = l.length - i ∧ i ≤ l.length ∧ levelL 129 l = levelL lv (l.drop i) ∧ hl = [] ∧ keepE ρ [3, 6, 7, 8] = some [(3, vI .i64 lv), (6, vD (lO l)), (7, vI .i64 l.length), (8, vI .i64 i)]) l.length ⟨0, 129, by omega, by omega, rfl, rfl, keep_of rfl rfl⟩ ?_
    rintro q ρ hl' ⟨i, lv, rfl, hi, he, rfl, hkk⟩
    refine Tri.keep _ hkk ?_
    by_cases h : i < l.length
    · have hg := oRows_get h
      rw [List.drop_eq_getElem_cons h] at he
      generalize l[i] = o at *
      rw [levelL_cons] at he
      refine Tri.seq (Tri.go [] rfl trivial (Tri.seq (Tri.go [.b 9 true] rfl ⟨decide_eq_true (by omega), trivial⟩ ?_)))
      by_cases c1 : 127 < o.1
      · rw [if_pos c1] at he
        refine Tri.tree (.a (.at [.int .i64 o.1, .str o.2]) (.f [] h2 (.a (.b 12 true) .nil))) rfl ⟨⟨by omega, rfl, hg⟩, by simp, trivial, by simp [leVs, leP, leE, leC], decide_eq_true (by simpa [lastN] using c1), ?_⟩
        rw [he]
        exact RetQ.le [] [] rfl trivial (.refl _) .nil
      rw [if_neg c1] at he
      by_cases c2 : 2 < o.1
      · rw [if_pos c2] at he
        refine Tri.seq (Tri.block (Tri.tree (.a (.at [.int .i64 o.1, .str o.2]) (.f [] h2 (.a (.b 12 false) (.f [] h1 (.a (.b 17 true) .nil))))) rfl ⟨⟨by omega, rfl, hg⟩, by simp, trivial, by simp [leVs, leP, leE, leC], decide_eq_false (by simpa [lastN] using c1), trivial, by simp [leVs, leP, leE, leC], decide_eq_true (by simpa [lastN] using c2), ?_⟩))
        refine Tri.let [] [] [3, 6, 7, 8] rfl trivial ?_
        exact Tri.go [] rfl ⟨by omega, trivial⟩ (again (l.length - (i + 1)) (by omega) ⟨i + 1, 130, rfl, by omega, he, rfl, keep_of rfl (by simp)⟩)
      · rw [if_neg c2] at he
        refine Tri.seq (Tri.block (Tri.tree (.a (.at [.int .i64 o.1, .str o.2]) (.f [] h2 (.a (.b 12 false) (.f [] h1 (.a (.b 17 false) .nil))))) rfl ⟨⟨by omega, rfl, hg⟩, by simp, trivial, by simp [leVs, leP, leE, leC], decide_eq_false (by simpa [lastN] using c1), trivial, by simp [leVs, leP, leE, leC], decide_eq_false (by simpa [lastN] using c2), ?_⟩))
        refine Tri.let [] [] [3, 6, 7, 8] rfl trivial ?_
        exact Tri.go [] rfl ⟨by omega, trivial⟩ (again (l.length - (i + 1)) (by omega) ⟨i + 1, lv, rfl, by omega, he, rfl, keep_of rfl (by simp)⟩)
    · have : i = l.length := by omega
      subst this
      rw [List.drop_length] at he
      exact Tri.seq (Tri.go [] rfl trivial (Tri.seq (Tri.go [.b 9 false] rfl ⟨decide_eq_false (by omega), trivial⟩ ⟨lv, And.intro rfl (And.intro he (keep_of rfl rfl))⟩)))
  rintro ρ hl' ⟨lv, rfl, he, hkk⟩
  refine Tri.keep _ hkk ?_
  rw [he]
  exact Tri.treeR .nil rfl ⟨trivial, rfl, leP_refl _⟩
/-- Of the objects less may be told. -/
def amongO (c : Int) (l : List Obj) : List Obj := keptO (fun o => decide (lastN c < o.1)) l
theorem among_ok {c : Int} (h : c = 1 ∨ c = 2 ∨ c = 3) {l : List Obj} (hl : l.length ≤ 1000000000) : FnOk Tryz.prog 169 [vD (lO l), vI .i64 c] [] (vD (lO (amongO c l))) [] := by
  have h1 := clone_ok hl
  have h2 := deleteFunc_ok (fun o => among1_ok h (o := o)) hl
  refine FnOk.tree t169 (.o [] [] h1 (.o [1, 0] [] h2 (.a (.call [] [1] .u []) .nil))) rfl rfl rfl rfl ⟨trivial, by simp [leVs, leP, leE, leC], rfl, trivial, trivial, by simp [leVs, leP, leE, leC], rfl, ⟨by simp, trivial⟩, .nil, ?_⟩
  simp only [leP, leE, leC, amongO, List.drop_zero, true_and]
  exact .inr (by simp [oRows])
theorem fits_ok {T : Tell} (hf : T.Fit) : FnOk Tryz.prog 171 [T.v] [] (vB T.right) [] := by
  have h := tRight_ok hf
  exact FnOk.tree t171 (.f [] h .nil) rfl rfl rfl rfl ⟨trivial, by simp [leVs, leP, leE, leL, leC], trivial, rfl, leP_refl _⟩
def addO (T : Tell) (o : Obj) : Tell := { T with objs := T.objs ++ [o] }
def goA (T : Tell) : List Obj → Tell
  | [] => T
  | o :: r => if (addO T o).right then goA (addO T o) r else { T with more := true, next := o.1 }
theorem goA_cons (T : Tell) (o : Obj) (r : List Obj) : goA T (o :: r) = if (addO T o).right then goA (addO T o) r else { T with more := true, next := o.1 } := rfl
def tell0 (c lv : Int) : Tell := { fn := 43, code := c, level := lv }
def answerL (l : List Obj) (c x : Int) : Tell × Int :=
  if 1 ≤ c ∧ c ≤ 4 ∧ 0 ≤ x ∧ x ≤ 255 then
    if c = 4 then
      if idxF (fun o => o.1 == x) 0 l = -1 then ({}, 2) else ({ tell0 4 (levelL 129 l) with objs := [l.getD (idxF (fun o => o.1 == x) 0 l).toNat default] }, 0)
    else (goA (tell0 c (levelL 129 l)) ((amongO c l).drop (max (idxF (fun o => o.1 == x) 0 (amongO c l)) 0).toNat), 0)
  else ({}, 3)
abbrev tellE (p : Tell × Int) : V := .tup [.agg p.1.cs, .c (.t (.int .i64 p.2))]
theorem answerNo_ok {l : List Obj} {c x : Int} (h : ¬ (1 ≤ c ∧ c ≤ 4 ∧ 0 ≤ x ∧ x ≤ 255)) : FnOk Tryz.prog 122 [vD (lO l), vI .i64 c, vI .i64 x] [] (tellE (answerL l c x)) [] := by
  rw [show answerL l c x = ({}, 3) from if_neg h]
  by_cases c1 : c < 1
  · exact FnOk.tree t122 (.a (.b 15 true) (.a (.b 19 true) (.a (.b 23 true) (.a (.b 26 true) .nil)))) rfl rfl rfl rfl (by simp [leP, leE, leEs, leL, leC, c1])
  by_cases c2 : 4 < c
  · exact FnOk.tree t122 (.a (.b 15 false) (.a (.b 19 true) (.a (.b 23 true) (.a (.b 26 true) .nil)))) rfl rfl rfl rfl (by simp [leP, leE, leEs, leL, leC, c1, c2])
  by_cases c3 : x < 0
  · exact FnOk.tree t122 (.a (.b 15 false) (.a (.b 19 false) (.a (.b 23 true) (.a (.b 26 true) .nil)))) rfl rfl rfl rfl (by simp [leP, leE, leEs, leL, leC, c1, c2, c3])
  by_cases c4 : 255 < x
  · exact FnOk.tree t122 (.a (.b 15 false) (.a (.b 19 false) (.a (.b 23 false) (.a (.b 26 true) .nil)))) rfl rfl rfl rfl (by simp [leP, leE, leEs, leL, leC, c1, c2, c3, c4])
  · omega
theorem answer4_ok {l : List Obj} (hl : l.length ≤ 1000000000) {x : Int} (h : 0 ≤ x ∧ x ≤ 255) : FnOk Tryz.prog 122 [vD (lO l), vI .i64 4, vI .i64 x] [] (tellE (answerL l 4 x)) [] := by
  have hlv := level_ok hl
  have hpl := idenPlace_ok (l := l) (by omega) (x := x)
  rw [show answerL l 4 x = if idxF (fun o => o.1 == x) 0 l = -1 then ({}, 2) else ({ tell0 4 (levelL 129 l) with objs := [l.getD (idxF (fun o => o.1 == x) 0 l).toNat default] }, 0) by
    unfold answerL; rw [if_pos (by omega), if_pos rfl]]
  generalize levelL 129 l = lv at *
  by_cases hn : idxF (fun o => o.1 == x) 0 l = -1
  · rw [if_pos hn]
    rw [hn] at hpl
    refine FnOk.tree t122 (.a (.b 15 false) (.a (.b 19 false) (.a (.b 23 false) (.a (.b 26 false) (.f [] hlv (.f [] hpl (.a (.b 38 true) .nil))))))) rfl rfl rfl rfl ?_
    simp [leVs, leP, leE, leEs, leL, leC]
    exact h
  · rw [if_neg hn]
    obtain ⟨k, hk, e1, _, _⟩ := idxF_some hn
    rw [Nat.zero_add] at e1
    rw [e1] at hpl ⊢
    have hg := oRows_get hk
    refine FnOk.tree t122 (.a (.b 15 false) (.a (.b 19 false) (.a (.b 23 false) (.a (.b 26 false) (.f [] hlv (.f [] hpl (.a (.b 38 false) (.a (.at [.int .i64 l[k].1, .str l[k].2]) .nil)))))))) rfl rfl rfl rfl ?_
    simp [leVs, leP, leE, leEs, leL, leC, tell0, hg, hk, oRows]
    omega
def tO (c lv : Int) (os : List Obj) : Tell := { fn := 43, code := c, level := lv, objs := os }
theorem tO_fit {c lv : Int} (hc : b64 c) (hl : b64 lv) {os : List Obj} (h1 : os.length ≤ 1000000000000) (h2 : ∀ o ∈ os, b64 o.1 ∧ o.2.size ≤ 1000000) : (tO c lv os).Fit :=
  ⟨by simp [tO, b64], by simp [tO, b64], by simp [tO], by simp [tO], wrd_nil, by simp [tO, b64], by simp [tO, b64], by simp [tO], by simp [tO], by simp [tO], hc, hl, by simp [tO, b64], h1, h2⟩
abbrev tOn (c lv : Int) (o : C) : List C := [.t (.int .i64 43), .t (.int .i64 0), .t .nil, .t .nil, .t (.int .i64 0), .t (.int .i64 0), .t (.int .u16 0), .t (.int .u16 0), .t (.int .u16 0), .t (.int .i64 c), .t (.int .i64 lv), .t (.bool false), .t (.int .i64 0), o]
abbrev tOm (c lv : Int) (mo : Bool) (nx : Int) (os : List Obj) : List C := [.t (.int .i64 43), .t (.int .i64 0), .t (lF []), .t (lI .u16 []), .t (.int .i64 0), .t (.int .i64 0), .t (.int .u16 0), .t (.int .u16 0), .t (.int .u16 0), .t (.int .i64 c), .t (.int .i64 lv), .t (.bool mo), .t (.int .i64 nx), .t (lO os)]
theorem levelL_rng : ∀ (l : List Obj) (lv : Int), levelL lv l = lv ∨ levelL lv l = 130 ∨ levelL lv l = 131
  | [], lv => .inl rfl
  | o :: l, lv => by
    rw [levelL_cons]
    split
    · exact .inr (.inr rfl)
    · split
      · rcases levelL_rng l 130 with h | h | h <;> simp [h]
      · exact levelL_rng l lv
theorem maxI (i : Int) : (if i < 0 then (0 : Int) else i) = ((max i 0).toNat : Int) := by split <;> omega
theorem answerA_ok {l : List Obj} (hl : l.length ≤ 1000000000) {c x : Int} (hc : c = 1 ∨ c = 2 ∨ c = 3) (h : 0 ≤ x ∧ x ≤ 255) (ho : ∀ o ∈ l, b64 o.1 ∧ o.2.size ≤ 1000000) : FnOk Tryz.prog 122 [vD (lO l), vI .i64 c, vI .i64 x] [] (tellE (answerL l c x)) [] := by
  have hlv := level_ok hl
  have ham := among_ok hc hl
  have hal : (amongO c l).length ≤ l.length := keptO_len _ _
  have hao : ∀ o ∈ amongO c l, b64 o.1 ∧ o.2.size ≤ 1000000 := fun o h => ho o (List.mem_filter.1 h).1
  rw [show answerL l c x = (goA (tell0 c (levelL 129 l)) ((amongO c l).drop (max (idxF (fun o => o.1 == x) 0 (amongO c l)) 0).toNat), 0) by
    unfold answerL; rw [if_pos (by omega), if_neg (by omega)]]
  have hlvr : levelL 129 l = 129 ∨ levelL 129 l = 130 ∨ levelL 129 l = 131 := levelL_rng l 129
  generalize levelL 129 l = lv at *
  generalize amongO c l = m at *
  have hpl := idenPlace_ok (l := m) (by omega) (x := x)
  have hix : idxF (fun o => o.1 == x) 0 m ≤ m.length ∧ -1 ≤ idxF (fun o => o.1 == x) 0 m := by
    by_cases hn : idxF (fun o => o.1 == x) 0 m = -1
    · rw [hn]; omega
    · obtain ⟨k, hk, e1, _⟩ := idxF_some hn
      rw [e1]; omega
  generalize idxF (fun o => o.1 == x) 0 m = ix at *
  refine FnOk.start t122 rfl rfl rfl ?_
  refine Tri.seq (Tri.go [] rfl trivial ?_)
  refine Tri.seq (Tri.tree (.a (.b 15 false) (.a (.b 19 false) (.a (.b 23 false) (.a (.b 26 false) .nil)))) rfl ⟨by simp; omega, by simp; omega, by simp; omega, by simp; omega, ?_⟩)
  refine Tri.seq (Tri.tree (.f [] hlv .nil) rfl ⟨trivial, by simp [leVs, leP, leE, leC], ?_⟩)
  refine Tri.seq (Tri.tree (.a (.b 33 false) .nil) rfl ⟨by simp; omega, ?_⟩)
  refine Tri.seq (Tri.tree (.f [] ham .nil) rfl ⟨trivial, by simp [leVs, leP, leE, leC], ?_⟩)
  refine Tri.mid (fun ρ hl => hl = [.box tzC, .box (tOn c lv (.t .nil))] ∧ keepE ρ [0, 6, 7, 8] = some [(0, vD (lO (m.drop (max ix 0).toNat))), (6, vC (.ptr 0 0)), (7, vI .i64 0), (8, vC (.ptr 1 0))]) ?_ ?_
  · refine Tri.tree (.f [] hpl .nil) rfl ⟨trivial, by simp [leVs, leP, leE, leC], trivial, ⟨?_, ?_, by simp, rfl⟩, rfl, keep_of rfl ?_⟩
    · simp only [cond_true, Option.getD_some]; split <;> omega
    · simp only [cond_true, Option.getD_some, Option.getD_none]; split <;> omega
    · simp only [cond_true, Option.getD_some, Option.getD_none, maxI]
      have e1 : (m.length : Int).toNat - ((max ix 0).toNat : Int).toNat = (m.drop (max ix 0).toNat).length := by simp
      rw [e1, List.take_of_length_le (by simp)]
      simp [oRows, List.map_drop]
  rintro ρ hl' ⟨rfl, hkk⟩
  refine Tri.keep _ hkk ?_
  have hml : (m.drop (max ix 0).toNat).length ≤ 1000000000 := by simp; omega
  have hmo : ∀ o ∈ m.drop (max ix 0).toNat, b64 o.1 ∧ o.2.size ≤ 1000000 := fun o h => hao o (List.mem_of_mem_drop h)
  generalize m.drop (max ix 0).toNat = d at *
  refine Tri.wkO (hl' := [.box tzC, .box (tOm c lv false 0 [])]) (.cons (.refl _) (.cons (.box ?_) .nil)) ?_
  · exact .cons (.refl _) (.cons (.refl _) (.cons (.t (.nil _)) (.cons (.t (.nil _)) (.cons (.refl _) (.cons (.refl _) (.cons (.refl _) (.cons (.refl _) (.cons (.refl _) (.cons (.refl _) (.cons (.refl _) (.cons (.refl _) (.cons (.refl _) (.cons (.t (.nil _)) .nil)))))))))))))
  show Tri _ _ _ _ _ _ (RetQ _ _ (tellE (goA (tO c lv []) d, 0)) _)
  refine Tri.mid (fun ρ hl => ∃ mo nx os, goA (tO c lv []) d = { tO c lv os with more := mo, next := nx } ∧ hl = [.box tzC, .box (tOm c lv mo nx os)] ∧ keepE ρ [6, 8] = some [(6, vC (.ptr 0 0)), (8, vC (.ptr 1 0))]) ?_ ?_
  · refine Tri.seq (Tri.go [] rfl trivial ?_)
    refine Tri.block ?_
    refine Tri.lp (fun q ρ hl => ∃ i os, q = d.length - i ∧ i ≤ d.length ∧ goA (tO c lv []) d = goA (tO c lv os) (d.drop i) ∧ os.length ≤ i ∧ (∀ o ∈ os, b64 o.1 ∧ o.2.size ≤ 1000000) ∧ hl = [.box tzC, .box (tOm c lv false 0 os)] ∧
      keepE ρ [6, 8, 56, 57, 58] = some [(6, vC (.ptr 0 0)), (8, vC (.ptr 1 0)), (56, vD (lO d)), (57, vI .i64 d.length), (58, vI .i64 i)]) d.length ⟨0, [], by omega, by omega, rfl, by simp, by simp, rfl, keep_of rfl rfl⟩ ?_
    rintro q ρ hl' ⟨i, os, rfl, hi, he, hosl, hos, rfl, hkk⟩
    refine Tri.keep _ hkk ?_
    by_cases h : i < d.length
    · have hg := oRows_get h
      have hob := hmo _ (List.getElem_mem h)
      rw [List.drop_eq_getElem_cons h] at he
      generalize d[i] = o at *
      rw [goA_cons] at he
      have hcl := clone_ok (l := os) (by omega)
      have hos' : ∀ p ∈ os ++ [o], b64 p.1 ∧ p.2.size ≤ 1000000 := fun p hp => by
        rcases List.mem_append.1 hp with hp | hp
        · exact hos p hp
        · rw [List.mem_singleton.1 hp]; exact hob
      have hfit := tO_fit (c := c) (lv := lv) (by simp only [b64]; omega) (by simp only [b64]; omega) (os := os ++ [o]) (by simp; omega) hos'
      have hft := fits_ok hfit
      have hadd : addO (tO c lv os) o = tO c lv (os ++ [o]) := rfl
      rw [hadd] at he
      refine Tri.seq (Tri.go [] rfl trivial (Tri.seq (Tri.go [.b 59 true] rfl ⟨decide_eq_true (by omega), trivial⟩ ?_)))
      refine Tri.seq (Tri.block (Tri.seq (Tri.tree (.a (.at [.int .i64 o.1, .str o.2]) .nil) rfl ⟨⟨by omega, rfl, hg⟩, by simp, ?_⟩)))
      refine Tri.seq (Tri.go [] rfl trivial ?_)
      refine Tri.seq (Tri.tree (.o [] [] hcl .nil) rfl ⟨trivial, by simp [leVs, leP, leE, leC], rfl, ⟨⟨rfl, by simp⟩, trivial⟩, ⟨.inr rfl, rfl, by simp, by simp, by omega, by omega⟩, ?_⟩)
      refine Tri.frz 5 3 13 ⟨_, _, _, _, _, rfl, rfl, rfl, by simp, rfl⟩ ?_
      have hagg : leVs [.e (.agg [.t (.int .i64 43), .t (.int .i64 0), .t (lF []), .t (lI .u16 []), .t (.int .i64 0), .t (.int .i64 0), .t (.int .u16 0), .t (.int .u16 0), .t (.int .u16 0), .t (.int .i64 c), .t (.int .i64 lv), .t (.bool false), .t (.int .i64 0), .t (.ls 2 (os.length + 1) (List.drop 0 (oRows os ++ List.take 1 ((List.replicate 1 [.int .i64 0, .str ⟨#[]⟩]).set 0 [.int .i64 o.1, .str o.2]))))])] [(tO c lv (os ++ [o])).v] := by
        simp [leVs, leP, leE, leL, leC, tO, oRows]
      cases hb : (tO c lv (os ++ [o])).right with
      | true =>
        rw [hb] at he hft
        refine Tri.seq (Tri.tree (.f [] hft (.a (.b 72 false) .nil)) rfl ⟨trivial, hagg, rfl, ?_⟩)
        refine Tri.tree .nil rfl ?_
        refine Tri.let [0, 1] [] [6, 8, 56, 57, 58] rfl trivial ?_
        refine Tri.go [] rfl ⟨by omega, trivial⟩ (again (d.length - (i + 1)) (by omega) ⟨i + 1, os ++ [o], rfl, by omega, by simpa using he, by simp; omega, hos', ?_, keep_of rfl (by simp)⟩)
        simp [oRows]
      | false =>
        rw [hb] at he hft
        refine Tri.seq (Tri.seq (Tri.tree (.f [] hft .nil) rfl ⟨trivial, hagg, ?_⟩))
        refine Tri.cond rfl (fun _ => ?_) (fun h => by cases h)
        refine Tri.seq (Tri.go [] rfl trivial ?_)
        refine Tri.let [0, 1] [] [6, 8] rfl trivial ?_
        exact Tri.exit ⟨true, o.1, os, by simpa using he, rfl, keep_of rfl rfl⟩
    · have : i = d.length := by omega
      subst this
      rw [List.drop_length] at he
      exact Tri.seq (Tri.go [] rfl trivial (Tri.seq (Tri.go [.b 59 false] rfl ⟨decide_eq_false (by omega), trivial⟩ ⟨false, 0, os, he, rfl, keep_of rfl rfl⟩)))
  rintro ρ hl' ⟨mo, nx, os, he, rfl, hkk⟩
  rw [he]
  refine Tri.keep _ hkk ?_
  exact Tri.treeR .nil rfl ⟨⟨trivial, trivial⟩, rfl, by simp [leP, leE, leEs, leL, leC, tO]⟩
theorem answer_ok {l : List Obj} (hl : l.length ≤ 1000000000) {c x : Int} (ho : ∀ o ∈ l, b64 o.1 ∧ o.2.size ≤ 1000000) : FnOk Tryz.prog 122 [vD (lO l), vI .i64 c, vI .i64 x] [] (tellE (answerL l c x)) [] := by
  by_cases h : 1 ≤ c ∧ c ≤ 4 ∧ 0 ≤ x ∧ x ≤ 255
  · by_cases h4 : c = 4
    · subst h4
      exact answer4_ok hl (by omega)
    · exact answerA_ok hl (by omega) (by omega) ho
  · exact answerNo_ok h
end Go.Proofs.YthddlkhfkncgpaaGreat
