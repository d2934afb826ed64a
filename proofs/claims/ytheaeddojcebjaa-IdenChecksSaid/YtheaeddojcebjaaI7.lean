/-
  Whether objects may be: iden.Check, the document; IdenChecks.
-/
import Derived.Test.YtheaeddojcebjaaI6
set_option maxRecDepth 100000
set_option maxHeartbeats 1000000
set_option linter.unusedVariables false
set_option linter.unusedSimpArgs false
namespace Go.Proofs.Ytheaeddojcebjaa
open Go.RowKit

/-- Ids that rise, each a byte. -/
def idsF : Int → List Obj → Bool
  | _, [] => true
  | p, o :: r => decide (0 ≤ o.1 ∧ o.1 ≤ 255 ∧ p < o.1) && idsF o.1 r
theorem idsF_cons (p : Int) (o : Obj) (r : List Obj) : idsF p (o :: r) = (decide (0 ≤ o.1 ∧ o.1 ≤ 255 ∧ p < o.1) && idsF o.1 r) := rfl
def szF (l : List Obj) : Bool := l.all fun o => decide (o.2.size ≤ 244)
theorem szF_cons (o : Obj) (r : List Obj) : szF (o :: r) = (decide (o.2.size ≤ 244) && szF r) := rfl
def hasF (l : List Obj) (i : Int) : Bool := decide (0 ≤ idxF (fun o => o.1 == i) 0 l)
def checkL (l : List Obj) : Int := if idsF (-1) l then (if szF l then (if hasF l 0 && (hasF l 1 && hasF l 2) then 0 else 5) else 4) else 1
theorem check_ok {l : List Obj} (hl : l.length ≤ 1000000) (ho : ∀ o ∈ l, b64 o.1) : FnOk Try.prog 27 [vD (lO l)] [] (vI .i64 (checkL l)) [] := by
  refine FnOk.start t27 rfl rfl rfl ?_
  refine Tri.seq (Tri.go [] rfl trivial ?_)
  refine Tri.mid (fun ρ hl => hl = [] ∧ idsF (-1) l = true ∧ keepE ρ [0] = some [(0, vD (lO l))]) ?_ ?_
  · refine Tri.seq (Tri.go [] rfl trivial ?_)
    refine Tri.block ?_
    refine Tri.lp (fun q ρ hl => ∃ i p, q = l.length - i ∧ i ≤ l.length ∧ idsF (-1) l = idsF p (l.drop i) ∧ ((i = 0 ∧ p = -1) ∨ ∃ j, ∃ h : j < l.length, i = j + 1 ∧ p = l[j].1) ∧ hl = [] ∧ keepE ρ [0, 8, 9, 10] = some [(0, vD (lO l)), (8, vD (lO l)), (9, vI .i64 l.length), (10, vI .i64 i)]) l.length ⟨0, -1, by omega, by omega, rfl, .inl ⟨rfl, rfl⟩, rfl, keep_of rfl rfl⟩ ?_
    rintro q ρ hl' ⟨i, p, rfl, hi, he, hpr, rfl, hkk⟩
    refine Tri.keep _ hkk ?_
    by_cases h : i < l.length
    · have hg := oRows_get h
      have hb := ho _ (List.getElem_mem h)
      have hnx : ∃ j, ∃ h : j < l.length, i + 1 = j + 1 ∧ l[i].1 = l[j].1 := ⟨i, h, rfl, rfl⟩
      rw [List.drop_eq_getElem_cons h, idsF_cons] at he
      generalize l[i] = o at *
      refine Tri.seq (Tri.go [] rfl trivial (Tri.seq (Tri.go [.b 11 true] rfl ⟨decide_eq_true (by omega), trivial⟩ ?_)))
      by_cases c1 : o.1 < 0
      · have hf : idsF (-1) l = false := by rw [he, decide_eq_false (by omega)]; rfl
        refine Tri.tree (.a (.at [.int .i64 o.1, .str o.2]) (.a (.b 18 true) (.a (.b 23 true) (.a (.b 37 true) .nil)))) rfl ⟨⟨by omega, rfl, hg⟩, by simp, decide_eq_true c1, rfl, rfl, ?_⟩
        rw [checkL, hf]
        exact RetQ.le [] [] rfl trivial (.refl _) .nil
      by_cases c2 : 255 < o.1
      · have hf : idsF (-1) l = false := by rw [he, decide_eq_false (by omega)]; rfl
        refine Tri.tree (.a (.at [.int .i64 o.1, .str o.2]) (.a (.b 18 false) (.a (.b 23 true) (.a (.b 37 true) .nil)))) rfl ⟨⟨by omega, rfl, hg⟩, by simp, decide_eq_false c1, decide_eq_true c2, rfl, ?_⟩
        rw [checkL, hf]
        exact RetQ.le [] [] rfl trivial (.refl _) .nil
      rcases hpr with ⟨rfl, rfl⟩ | ⟨j, hj, rfl, rfl⟩
      · rw [decide_eq_true (by omega), Bool.true_and] at he
        refine Tri.seq (Tri.block (Tri.tree (.a (.at [.int .i64 o.1, .str o.2]) (.a (.b 18 false) (.a (.b 23 false) (.a (.b 26 false) (.a (.b 37 false) .nil))))) rfl ⟨⟨by omega, rfl, hg⟩, by simp, decide_eq_false c1, decide_eq_false c2, rfl, rfl, ?_⟩))
        refine Tri.let [] [] [0, 8, 9, 10] rfl trivial ?_
        exact Tri.go [] rfl ⟨by omega, trivial⟩ (again (l.length - (0 + 1)) (by omega) ⟨0 + 1, o.1, rfl, by omega, he, .inr hnx, rfl, keep_of rfl (by simp)⟩)
      · have hgj := oRows_get hj
        have hij : ((j + 1 : Nat) : Int) - 1 = j := by omega
        generalize l[j] = w at *
        by_cases c3 : o.1 ≤ w.1
        · have hf : idsF (-1) l = false := by rw [he, decide_eq_false (by omega)]; rfl
          refine Tri.tree (.a (.at [.int .i64 o.1, .str o.2]) (.a (.b 18 false) (.a (.b 23 false) (.a (.b 26 true) (.a (.at [.int .i64 w.1, .str w.2]) (.a (.b 37 true) .nil)))))) rfl ⟨⟨by omega, rfl, hg⟩, by simp, decide_eq_false c1, decide_eq_false c2, decide_eq_true (by omega), by omega, ⟨by omega, rfl, by rw [show (((j + 1 : Nat) : Int) - 1).toNat = j by omega]; exact hgj⟩, decide_eq_true c3, ?_⟩
          rw [checkL, hf]
          exact RetQ.le [] [] rfl trivial (.refl _) .nil
        · rw [decide_eq_true (by omega), Bool.true_and] at he
          refine Tri.seq (Tri.block (Tri.tree (.a (.at [.int .i64 o.1, .str o.2]) (.a (.b 18 false) (.a (.b 23 false) (.a (.b 26 true) (.a (.at [.int .i64 w.1, .str w.2]) (.a (.b 37 false) .nil)))))) rfl ⟨⟨by omega, rfl, hg⟩, by simp, decide_eq_false c1, decide_eq_false c2, decide_eq_true (by omega), by omega, ⟨by omega, rfl, by rw [show (((j + 1 : Nat) : Int) - 1).toNat = j by omega]; exact hgj⟩, decide_eq_false c3, ?_⟩))
          refine Tri.let [] [] [0, 8, 9, 10] rfl trivial ?_
          exact Tri.go [] rfl ⟨by omega, trivial⟩ (again (l.length - (j + 1 + 1)) (by omega) ⟨j + 1 + 1, o.1, rfl, by omega, he, .inr hnx, rfl, keep_of rfl (by simp)⟩)
    · have : i = l.length := by omega
      subst this
      rw [List.drop_length] at he
      exact Tri.seq (Tri.go [] rfl trivial (Tri.seq (Tri.go [.b 11 false] rfl ⟨decide_eq_false (by omega), trivial⟩ (And.intro rfl (And.intro he (keep_of rfl rfl))))))
  rintro ρ hl' ⟨rfl, hids, hkk⟩
  refine Tri.keep _ hkk ?_
  refine Tri.mid (fun ρ hl => hl = [] ∧ szF l = true ∧ keepE ρ [0] = some [(0, vD (lO l))]) ?_ ?_
  · refine Tri.seq (Tri.go [] rfl trivial ?_)
    refine Tri.block ?_
    refine Tri.lp (fun q ρ hl => ∃ i, q = l.length - i ∧ i ≤ l.length ∧ szF l = szF (l.drop i) ∧ hl = [] ∧ keepE ρ [0, 39, 40, 41] = some [(0, vD (lO l)), (39, vD (lO l)), (40, vI .i64 l.length), (41, vI .i64 i)]) l.length ⟨0, by omega, by omega, rfl, rfl, keep_of rfl rfl⟩ ?_
    rintro q ρ hl' ⟨i, rfl, hi, he, rfl, hkk⟩
    refine Tri.keep _ hkk ?_
    by_cases h : i < l.length
    · have hg := oRows_get h
      rw [List.drop_eq_getElem_cons h] at he
      generalize l[i] = o at *
      rw [szF_cons] at he
      refine Tri.seq (Tri.go [] rfl trivial (Tri.seq (Tri.go [.b 42 true] rfl ⟨decide_eq_true (by omega), trivial⟩ ?_)))
      by_cases c1 : 244 < o.2.size
      · have hf : szF l = false := by rw [he, decide_eq_false (by omega)]; rfl
        refine Tri.tree (.a (.at [.int .i64 o.1, .str o.2]) (.a (.b 48 true) .nil)) rfl ⟨⟨by omega, rfl, hg⟩, by simp, decide_eq_true (by omega), ?_⟩
        rw [checkL, hids, if_pos rfl, hf]
        exact RetQ.le [] [] rfl trivial (.refl _) .nil
      · rw [decide_eq_true (by omega), Bool.true_and] at he
        refine Tri.seq (Tri.block (Tri.tree (.a (.at [.int .i64 o.1, .str o.2]) (.a (.b 48 false) .nil)) rfl ⟨⟨by omega, rfl, hg⟩, by simp, decide_eq_false (by omega), ?_⟩))
        refine Tri.let [] [] [0, 39, 40, 41] rfl trivial ?_
        exact Tri.go [] rfl ⟨by omega, trivial⟩ (again (l.length - (i + 1)) (by omega) ⟨i + 1, rfl, by omega, he, rfl, keep_of rfl (by simp)⟩)
    · have : i = l.length := by omega
      subst this
      rw [List.drop_length] at he
      exact Tri.seq (Tri.go [] rfl trivial (Tri.seq (Tri.go [.b 42 false] rfl ⟨decide_eq_false (by omega), trivial⟩ (And.intro rfl (And.intro he (keep_of rfl rfl))))))
  rintro ρ hl' ⟨rfl, hszs, hkk⟩
  refine Tri.keep _ hkk ?_
  have e : checkL l = if hasF l 0 && (hasF l 1 && hasF l 2) then 0 else 5 := by rw [checkL, hids, if_pos rfl, hszs, if_pos rfl]
  rw [e]
  clear e
  refine Tri.mid (fun ρ hl => hl = [] ∧ (hasF l 0 && (hasF l 1 && hasF l 2)) = true ∧ keepE ρ [] = some []) ?_ ?_
  · refine Tri.seq (Tri.go [] rfl trivial ?_)
    refine Tri.block ?_
    refine Tri.lp (fun q ρ hl => ∃ i : Nat, q = 3 - i ∧ i ≤ 3 ∧ (∀ j : Nat, j < i → hasF l j = true) ∧ hl = [] ∧ keepE ρ [0, 50] = some [(0, vD (lO l)), (50, vI .i64 i)]) 3 ⟨0, by omega, by omega, fun j h => by omega, rfl, keep_of rfl rfl⟩ ?_
    rintro q ρ hl' ⟨i, rfl, hi, hall, rfl, hkk⟩
    refine Tri.keep _ hkk ?_
    by_cases h : i < 3
    · have hpl := idenPlace_ok (l := l) (by omega) (x := i)
      refine Tri.seq (Tri.go [] rfl trivial (Tri.seq (Tri.go [.b 51 true] rfl ⟨decide_eq_true (by omega), trivial⟩ ?_)))
      cases hb : hasF l i with
      | false =>
        have hlt : idxF (fun o => o.1 == (i : Int)) 0 l < 0 := by have := of_decide_eq_false hb; omega
        refine Tri.tree (.f [] hpl (.a (.b 56 true) .nil)) rfl ⟨trivial, by simp [leVs, leP, leE, leC], decide_eq_true hlt, ?_⟩
        have hn : (hasF l 0 && (hasF l 1 && hasF l 2)) = false := by
          have : i = 0 ∨ i = 1 ∨ i = 2 := by omega
          rcases this with rfl | rfl | rfl
          · rw [show hasF l 0 = false from hb]; rfl
          · rw [show hasF l 1 = false from hb]; cases hasF l 0 <;> rfl
          · rw [show hasF l 2 = false from hb]; cases hasF l 0 <;> cases hasF l 1 <;> rfl
        rw [hn]
        exact RetQ.le [] [] rfl trivial (.refl _) .nil
      | true =>
        have hge : 0 ≤ idxF (fun o => o.1 == (i : Int)) 0 l := of_decide_eq_true hb
        refine Tri.seq (Tri.block (Tri.tree (.f [] hpl (.a (.b 56 false) .nil)) rfl ⟨trivial, by simp [leVs, leP, leE, leC], decide_eq_false (by omega), ?_⟩))
        refine Tri.go [] rfl ⟨by omega, trivial⟩ (again (3 - (i + 1)) (by omega) ⟨i + 1, rfl, by omega, fun j hj => ?_, rfl, keep_of rfl (by simp)⟩)
        by_cases hji : j = i
        · subst hji; exact hb
        · exact hall j (by omega)
    · have h0 := hall 0 (by omega)
      have h1 := hall 1 (by omega)
      have h2 := hall 2 (by omega)
      have : i = 3 := by omega
      subst this
      exact Tri.seq (Tri.go [] rfl trivial (Tri.seq (Tri.go [.b 51 false] rfl ⟨decide_eq_false (by omega), trivial⟩ (And.intro rfl (And.intro (by rw [show hasF l 0 = true from h0, show hasF l 1 = true from h1, show hasF l 2 = true from h2]; rfl) (keep_of rfl rfl))))))
  rintro ρ hl' ⟨rfl, hh, hkk⟩
  refine Tri.keep _ hkk ?_
  rw [hh]
  exact Tri.treeR .nil rfl ⟨trivial, rfl, leP_refl _⟩

def hasR (l : List Obj) (i : Nat) : Bool := match l[i]? with
  | some o => o.1 == (i : Int)
  | none => false
theorem hasF_iff {l : List Obj} {v : Int} : hasF l v = true ↔ ∃ o ∈ l, o.1 = v := by
  unfold hasF
  rw [decide_eq_true_eq]
  by_cases hn : idxF (fun o => o.1 == v) 0 l = -1
  · rw [hn]
    constructor
    · intro h; omega
    · rintro ⟨o, ho, h⟩
      have := idxF_none hn o ho
      simp [h] at this
  · obtain ⟨k, hk, e1, e2, _⟩ := idxF_some hn
    rw [e1]
    exact ⟨fun _ => ⟨l[k], List.getElem_mem hk, by simpa using e2⟩, fun _ => by omega⟩
theorem idsF_up : ∀ {l : List Obj} {p : Int}, idsF p l = true → ∀ o ∈ l, p < o.1
  | [], p, _, o, ho => by cases ho
  | a :: l, p, h, o, ho => by
    rw [idsF_cons, Bool.and_eq_true, decide_eq_true_eq] at h
    rcases List.mem_cons.1 ho with rfl | ho
    · exact h.1.2.2
    · have := idsF_up h.2 o ho
      omega
theorem has_eq {l : List Obj} (h : idsF (-1) l = true) : (hasF l 0 && (hasF l 1 && hasF l 2)) = (hasR l 0 && (hasR l 1 && hasR l 2)) := by
  rw [Bool.eq_iff_iff]
  simp only [Bool.and_eq_true, hasF_iff]
  constructor
  · rintro ⟨⟨x, hx, x0⟩, ⟨y, hy, y1⟩, ⟨z, hz, z2⟩⟩
    match l, h, hx, hy, hz with
    | a :: r, h, hx, hy, hz =>
      rw [idsF_cons, Bool.and_eq_true, decide_eq_true_eq] at h
      have ha : a.1 = 0 := by
        rcases List.mem_cons.1 hx with rfl | hx
        · exact x0
        · have := idsF_up h.2 x hx; omega
      have hy : y ∈ r := by
        rcases List.mem_cons.1 hy with rfl | hy
        · omega
        · exact hy
      have hz : z ∈ r := by
        rcases List.mem_cons.1 hz with rfl | hz
        · omega
        · exact hz
      match r, h.2, hy, hz with
      | b :: r, h2, hy, hz =>
        rw [idsF_cons, Bool.and_eq_true, decide_eq_true_eq] at h2
        have hb : b.1 = 1 := by
          rcases List.mem_cons.1 hy with rfl | hy
          · exact y1
          · have := idsF_up h2.2 y hy; omega
        have hz : z ∈ r := by
          rcases List.mem_cons.1 hz with rfl | hz
          · omega
          · exact hz
        match r, h2.2, hz with
        | c :: r, h3, hz =>
          rw [idsF_cons, Bool.and_eq_true, decide_eq_true_eq] at h3
          have hc : c.1 = 2 := by
            rcases List.mem_cons.1 hz with rfl | hz
            · exact z2
            · have := idsF_up h3.2 z hz; omega
          simp [hasR, ha, hb, hc]
  · have key : ∀ i : Nat, hasR l i = true → ∃ o ∈ l, o.1 = (i : Int) := fun i hi => by
      unfold hasR at hi
      split at hi
      · rename_i o ho
        exact ⟨o, List.mem_of_getElem? ho, by simpa using hi⟩
      · cases hi
    rintro ⟨h0, h1, h2⟩
    exact ⟨key 0 h0, key 1 h1, key 2 h2⟩
theorem rObjs7_ok {l : List Obj} (hl : l.length ≤ 1000000) (ho : ∀ o ∈ l, b64 o.1 ∧ o.2.size ≤ 1000000) : FnOk Try.prog 28 [vD (lO l)] [] (vI .i64 (checkL l)) [] := by
  refine FnOk.start t28 rfl rfl rfl ?_
  refine Tri.seq (Tri.go [] rfl trivial ?_)
  refine Tri.mid (fun ρ hl => hl = [] ∧ idsF (-1) l = true ∧ keepE ρ [0] = some [(0, vD (lO l))]) ?_ ?_
  · refine Tri.seq (Tri.go [] rfl trivial ?_)
    refine Tri.block ?_
    refine Tri.lp (fun q ρ hl => ∃ i p, q = l.length - i ∧ i ≤ l.length ∧ idsF (-1) l = idsF p (l.drop i) ∧ ((i = 0 ∧ p = -1) ∨ ∃ j, ∃ h : j < l.length, i = j + 1 ∧ p = l[j].1) ∧ hl = [] ∧ keepE ρ [0, 3] = some [(0, vD (lO l)), (3, vI .i64 i)]) l.length ⟨0, -1, by omega, by omega, rfl, .inl ⟨rfl, rfl⟩, rfl, keep_of rfl rfl⟩ ?_
    rintro q ρ hl' ⟨i, p, rfl, hi, he, hpr, rfl, hkk⟩
    refine Tri.keep _ hkk ?_
    by_cases h : i < l.length
    · have hg := oRows_get h
      have hnx : ∃ j, ∃ h : j < l.length, i + 1 = j + 1 ∧ l[i].1 = l[j].1 := ⟨i, h, rfl, rfl⟩
      rw [List.drop_eq_getElem_cons h, idsF_cons] at he
      generalize l[i] = o at *
      have hb := byteful_ok o.1
      refine Tri.seq (Tri.go [.b 9 true] rfl ⟨decide_eq_true (by omega), trivial⟩ ?_)
      by_cases c1 : 0 ≤ o.1 ∧ o.1 ≤ 255
      · rw [show bytefulB o.1 = true from decide_eq_true c1] at hb
        rcases hpr with ⟨rfl, rfl⟩ | ⟨j, hj, rfl, rfl⟩
        · rw [decide_eq_true (by omega), Bool.true_and] at he
          refine Tri.seq (Tri.block (Tri.tree (.a (.at [.int .i64 o.1, .str o.2]) (.f [] hb (.a (.b 19 false) (.a (.b 22 false) (.a (.b 36 false) .nil))))) rfl ⟨⟨by omega, rfl, hg⟩, trivial, by simp [leVs, leP, leE, leC], rfl, rfl, rfl, ?_⟩))
          exact Tri.go [] rfl ⟨by omega, trivial⟩ (again (l.length - (0 + 1)) (by omega) ⟨0 + 1, o.1, rfl, by omega, he, .inr hnx, rfl, keep_of rfl (by simp)⟩)
        · have hgj := oRows_get hj
          generalize l[j] = w at *
          by_cases c3 : o.1 ≤ w.1
          · have hf : idsF (-1) l = false := by rw [he, decide_eq_false (by omega)]; rfl
            refine Tri.tree (.a (.at [.int .i64 o.1, .str o.2]) (.f [] hb (.a (.b 19 false) (.a (.b 22 true) (.a (.at [.int .i64 w.1, .str w.2]) (.a (.at [.int .i64 o.1, .str o.2]) (.a (.b 36 true) .nil))))))) rfl ⟨⟨by omega, rfl, hg⟩, trivial, by simp [leVs, leP, leE, leC], rfl, decide_eq_true (by omega), by omega, ⟨by omega, rfl, by rw [show (((j + 1 : Nat) : Int) - 1).toNat = j by omega]; exact hgj⟩, ⟨by omega, rfl, hg⟩, decide_eq_true c3, ?_⟩
            rw [checkL, hf]
            exact RetQ.le [] [] rfl trivial (.refl _) .nil
          · rw [decide_eq_true (by omega), Bool.true_and] at he
            refine Tri.seq (Tri.block (Tri.tree (.a (.at [.int .i64 o.1, .str o.2]) (.f [] hb (.a (.b 19 false) (.a (.b 22 true) (.a (.at [.int .i64 w.1, .str w.2]) (.a (.at [.int .i64 o.1, .str o.2]) (.a (.b 36 false) .nil))))))) rfl ⟨⟨by omega, rfl, hg⟩, trivial, by simp [leVs, leP, leE, leC], rfl, decide_eq_true (by omega), by omega, ⟨by omega, rfl, by rw [show (((j + 1 : Nat) : Int) - 1).toNat = j by omega]; exact hgj⟩, ⟨by omega, rfl, hg⟩, decide_eq_false c3, ?_⟩))
            exact Tri.go [] rfl ⟨by omega, trivial⟩ (again (l.length - (j + 1 + 1)) (by omega) ⟨j + 1 + 1, o.1, rfl, by omega, he, .inr hnx, rfl, keep_of rfl (by simp)⟩)
      · rw [show bytefulB o.1 = false from decide_eq_false c1] at hb
        have hf : idsF (-1) l = false := by rw [he, decide_eq_false (by omega)]; rfl
        refine Tri.tree (.a (.at [.int .i64 o.1, .str o.2]) (.f [] hb (.a (.b 19 true) (.a (.b 36 true) .nil)))) rfl ⟨⟨by omega, rfl, hg⟩, trivial, by simp [leVs, leP, leE, leC], rfl, rfl, ?_⟩
        rw [checkL, hf]
        exact RetQ.le [] [] rfl trivial (.refl _) .nil
    · have : i = l.length := by omega
      subst this
      rw [List.drop_length] at he
      exact Tri.go [.b 9 false] rfl ⟨decide_eq_false (by omega), trivial⟩ (And.intro rfl (And.intro he (keep_of rfl rfl)))
  rintro ρ hl' ⟨rfl, hids, hkk⟩
  refine Tri.keep _ hkk ?_
  refine Tri.mid (fun ρ hl => hl = [] ∧ szF l = true ∧ keepE ρ [0] = some [(0, vD (lO l))]) ?_ ?_
  · refine Tri.seq (Tri.go [] rfl trivial ?_)
    refine Tri.block ?_
    refine Tri.lp (fun q ρ hl => ∃ i, q = l.length - i ∧ i ≤ l.length ∧ szF l = szF (l.drop i) ∧ hl = [] ∧ keepE ρ [0, 4] = some [(0, vD (lO l)), (4, vI .i64 i)]) l.length ⟨0, by omega, by omega, rfl, rfl, keep_of rfl rfl⟩ ?_
    rintro q ρ hl' ⟨i, rfl, hi, he, rfl, hkk⟩
    refine Tri.keep _ hkk ?_
    by_cases h : i < l.length
    · have hg := oRows_get h
      rw [List.drop_eq_getElem_cons h] at he
      generalize l[i] = o at *
      rw [szF_cons] at he
      refine Tri.seq (Tri.go [.b 40 true] rfl ⟨decide_eq_true (by omega), trivial⟩ ?_)
      by_cases c1 : 244 < o.2.size
      · have hf : szF l = false := by rw [he, decide_eq_false (by omega)]; rfl
        refine Tri.tree (.a (.at [.int .i64 o.1, .str o.2]) (.a (.b 49 true) .nil)) rfl ⟨⟨by omega, rfl, hg⟩, decide_eq_true (by omega), ?_⟩
        rw [checkL, hids, if_pos rfl, hf]
        exact RetQ.le [] [] rfl trivial (.refl _) .nil
      · rw [decide_eq_true (by omega), Bool.true_and] at he
        refine Tri.seq (Tri.block (Tri.tree (.a (.at [.int .i64 o.1, .str o.2]) (.a (.b 49 false) .nil)) rfl ⟨⟨by omega, rfl, hg⟩, decide_eq_false (by omega), ?_⟩))
        exact Tri.go [] rfl ⟨by omega, trivial⟩ (again (l.length - (i + 1)) (by omega) ⟨i + 1, rfl, by omega, he, rfl, keep_of rfl (by simp)⟩)
    · have : i = l.length := by omega
      subst this
      rw [List.drop_length] at he
      exact Tri.go [.b 40 false] rfl ⟨decide_eq_false (by omega), trivial⟩ (And.intro rfl (And.intro he (keep_of rfl rfl)))
  rintro ρ hl' ⟨rfl, hszs, hkk⟩
  refine Tri.keep _ hkk ?_
  have e : checkL l = if hasR l 0 && (hasR l 1 && hasR l 2) then 0 else 5 := by rw [checkL, hids, if_pos rfl, hszs, if_pos rfl, has_eq hids]
  rw [e]
  clear e
  refine Tri.mid (fun ρ hl => hl = [] ∧ (hasR l 0 && (hasR l 1 && hasR l 2)) = true ∧ keepE ρ [] = some []) ?_ ?_
  · refine Tri.seq (Tri.go [] rfl trivial ?_)
    refine Tri.block ?_
    refine Tri.lp (fun q ρ hl => ∃ i : Nat, q = 3 - i ∧ i ≤ 3 ∧ (∀ j : Nat, j < i → hasR l j = true) ∧ hl = [] ∧ keepE ρ [0, 5] = some [(0, vD (lO l)), (5, vI .i64 i)]) 3 ⟨0, by omega, by omega, fun j h => by omega, rfl, keep_of rfl rfl⟩ ?_
    rintro q ρ hl' ⟨i, rfl, hi, hall, rfl, hkk⟩
    refine Tri.keep _ hkk ?_
    by_cases h : i < 3
    · have hno : hasR l i = false → (hasR l 0 && (hasR l 1 && hasR l 2)) = false := fun hb => by
        have : i = 0 ∨ i = 1 ∨ i = 2 := by omega
        rcases this with rfl | rfl | rfl
        · rw [hb]; rfl
        · rw [hb]; cases hasR l 0 <;> rfl
        · rw [hb]; cases hasR l 0 <;> cases hasR l 1 <;> rfl
      refine Tri.seq (Tri.go [.b 51 true] rfl ⟨decide_eq_true (by omega), trivial⟩ ?_)
      by_cases hil : i < l.length
      · have hg := oRows_get hil
        have hhr : hasR l i = (l[i].1 == (i : Int)) := by unfold hasR; rw [List.getElem?_eq_getElem hil]
        generalize l[i] = o at *
        by_cases hx : o.1 = i
        · have hb : hasR l i = true := by rw [hhr]; simpa using hx
          refine Tri.seq (Tri.block (Tri.tree (.a (.b 58 false) (.a (.at [.int .i64 o.1, .str o.2]) (.a (.b 66 false) .nil))) rfl ⟨decide_eq_false (by omega), ⟨by omega, rfl, hg⟩, by simpa using hx, ?_⟩))
          refine Tri.go [] rfl ⟨by omega, trivial⟩ (again (3 - (i + 1)) (by omega) ⟨i + 1, rfl, by omega, fun j hj => ?_, rfl, keep_of rfl (by simp)⟩)
          by_cases hji : j = i
          · subst hji; exact hb
          · exact hall j (by omega)
        · have hb : hasR l i = false := by rw [hhr]; simpa using hx
          refine Tri.tree (.a (.b 58 false) (.a (.at [.int .i64 o.1, .str o.2]) (.a (.b 66 true) .nil))) rfl ⟨decide_eq_false (by omega), ⟨by omega, rfl, hg⟩, by simpa using hx, ?_⟩
          rw [hno hb]
          exact RetQ.le [] [] rfl trivial (.refl _) .nil
      · have hb : hasR l i = false := by unfold hasR; rw [List.getElem?_eq_none (by omega)]
        refine Tri.tree (.a (.b 58 true) (.a (.b 66 true) .nil)) rfl ⟨decide_eq_true (by omega), rfl, ?_⟩
        rw [hno hb]
        exact RetQ.le [] [] rfl trivial (.refl _) .nil
    · have h0 := hall 0 (by omega)
      have h1 := hall 1 (by omega)
      have h2 := hall 2 (by omega)
      have : i = 3 := by omega
      subst this
      exact Tri.go [.b 51 false] rfl ⟨decide_eq_false (by omega), trivial⟩ (And.intro rfl (And.intro (by rw [h0, h1, h2]; rfl) (keep_of rfl rfl)))
  rintro ρ hl' ⟨rfl, hh, hkk⟩
  refine Tri.keep _ hkk ?_
  rw [hh]
  exact Tri.treeR .nil rfl ⟨trivial, rfl, leP_refl _⟩

theorem trOp_append {P : Program} {o : Oper} {sz by_ : Nat} {z : List D} {ax ay : AX} (h : trOp P o = some (.append sz by_ z ax ay)) : ∃ c e t2, o.op = .call c ∧ c.callee = .builtin .append ∧ c.argTypes[0]?.bind P.underlying = some (.slice e) ∧ c.argTypes[1]?.bind P.underlying = some t2 ∧
    ((∃ e', t2 = .slice e') ∨ t2 = .string) ∧ listM trX c.args.toList = some [ax, ay] ∧ sizeB P e = some sz ∧ bytesB P e = some by_ ∧ zeroD P e = some z ∧ 0 < sz ∧ z.length = sz := by
  cases hop : o.op with
  | call c =>
    simp only [trOp, hop] at h
    split at h
    · cases h
    · rename_i args hargs
      split at h
      case h_6 hcl =>
        split at h
        · rename_i e t2 x y h1 h2
          split at h
          · rename_i e' sz' by' z' q1 q2 q3
            split at h
            · rename_i hc
              cases h
              exact ⟨c, e, _, rfl, hcl, h1, h2, .inl ⟨_, rfl⟩, hargs, q1, q2, q3, hc⟩
            · cases h
          · rename_i sz' by' z' q1 q2 q3
            split at h
            · rename_i hc
              cases h
              exact ⟨c, e, _, rfl, hcl, h1, h2, .inr rfl, hargs, q1, q2, q3, by omega, hc.2⟩
            · cases h
          · split at h <;> cases h
          · cases h
        · cases h
      all_goals try (cases h; done)
      all_goals try (obtain ⟨x, _, hx⟩ := Option.map_eq_some_iff.1 h; cases hx; done)
      all_goals try (split at h <;> try (cases h; done))
      all_goals try (split at h <;> try (cases h; done))
      all_goals try (split at h <;> try (cases h; done))
      all_goals try (split at h <;> try (cases h; done))
  | _ =>
    simp only [trOp, hop] at h
    all_goals try (split at h <;> try contradiction)
    all_goals try (cases h; done)
    all_goals try (obtain ⟨x, _, hx⟩ := Option.map_eq_some_iff.1 h; cases hx; done)
    all_goals try (split at h <;> try (cases h; done))
    all_goals try (obtain ⟨x, _, hx⟩ := Option.map_eq_some_iff.1 h; cases hx; done)
    all_goals try (split at h <;> try (cases h; done))
    all_goals try (obtain ⟨x, _, hx⟩ := Option.map_eq_some_iff.1 h; cases hx; done)
    all_goals try (split at h <;> try (cases h; done))
    all_goals try (obtain ⟨x, _, hx⟩ := Option.map_eq_some_iff.1 h; cases hx; done)
    all_goals try (split at h <;> try (cases h; done))
    all_goals try (obtain ⟨x, _, hx⟩ := Option.map_eq_some_iff.1 h; cases hx; done)
    all_goals try (split at h <;> try (cases h; done))
    all_goals try (obtain ⟨x, _, hx⟩ := Option.map_eq_some_iff.1 h; cases hx; done)
section
variable {P : Program} {N : Nat} {o : Oper} {ρ : Env} {ts : List Nat} {hl : List Ob}
theorem s_appendIn {c : Call} {sT xT e : TypeId} {x y : Operand} {ax : AX} {sz by_ : Nat} {z : Value} (ho : o.op = .call c) (hc : c.callee = .builtin .append) (ht0 : c.argTypes[0]? = some sT) (ht1 : c.argTypes[1]? = some xT) (hargs : c.args.toList = [x, y])
    (h1 : trX x = some ax) (t1 : ∀ t ∈ ax.ts, t ∈ ts)
    (hsz : 0 < sz) {m id n : Nat} {old new : List (List D)} {rd : List Nat} (e1 : ev ρ ax = some (vC (.sl id 0 n))) (hnl : new.length = m) (hsrc : AppSrc P o ρ ts hl sT xT e sz by_ z y m new rd)
    (hid : Ytheaeddojcebjaa.hx hl id = .arr sz old) (p3 : n + m ≤ old.length) (p0 : 0 < old.length) :
    OpR P N o ρ ts hl { v := vC (.sl id 0 (n + m)), wr := [(id, .arr sz (old.take n ++ new ++ old.drop (n + m)))], rd := id :: rd } := by
  have ha : c.args = #[x, y] := by rw [← Array.toArray_toList (xs := c.args), hargs]
  intro a w g hh hN hrd hnew hR he
  have r1 := rv_c (ev_ok h1 he t1 e1)
  have hob : hh id = .arr sz old := (hrd id (.inl (by simp))).trans hid
  have hlive : (hh id).live = true := by rw [hob]; rfl
  obtain ⟨_, l, m1, m2, hcase⟩ := hob ▸ hR.objs id hlive
  obtain ⟨news, n1, n2, n3, hA⟩ := hsrc a w g hh (fun i hi => hrd i (.inl (by simp [hi]))) hR he
  generalize hxv : a.eval x = u at *
  have hex : ∀ A q cp v w', u = .slice A q cp → (Builtin.append_ #[sT, xT] o.type #[.slice A q cp, a.eval y]).run P w = .ok v w' → (execOp a.eval o).run P w = .ok (.value v) w' := by
    rintro A q cp v w' rfl hr
    have e : Builtin.append_ c.argTypes o.type #[.slice A q cp, a.eval y] = Builtin.append_ #[sT, xT] o.type #[.slice A q cp, a.eval y] := by simp only [Builtin.append_, ht0, ht1]; rfl
    simp [execOp, ho, resolve, hc, invoke, builtin, ha, hxv, e, hr]
  rcases hcase with ⟨hc', q1, q2, _⟩ | ⟨hnn, hle, hmx, m6, arr, ty, m3, m4, m5⟩
  · exfalso
    first
      | (rw [q1] at p0; simp at p0; done)
      | (rw [q2] at p0; simp at p0; done)
      | omega
  cases r1 with
  | slz _ A hμ ho' =>
    rename_i l'
    obtain rfl : l = l' := Option.some.inj (m1.symm.trans hμ)
    exfalso
    omega
  | sl _ _ hμ hn ho' =>
    rename_i l'
    obtain rfl : l = l' := Option.some.inj (m1.symm.trans hμ)
    simp only [Nat.zero_mul, Nat.sub_zero] at *
    have hroom : n + m ≤ l.tot := by omega
    have hfit : n * sz + m * sz ≤ arr.size := by rw [m4, ← Nat.add_mul]; exact Nat.mul_le_mul_right _ hroom
    have hst := run_storeCells_at (P := P) l.blk (n * sz) ty news.toList 0 arr w m3 (by rw [Array.length_toList, n1]; omega) n3
    simp only [Nat.add_zero, Array.length_toList, n1] at hst
    generalize hX : (arr.toList.take (n * sz) ++ news.toList ++ arr.toList.drop (n * sz + m * sz)).toArray = X at hst
    have hrun := hA.room (base := some ⟨l.blk, 0, none⟩) (n := n) (cap := l.tot) (w' := w.setRow l.blk X) hroom
      (fun b hb => by injection hb with hb; subst hb; rw [Addr.add_mid, Nat.zero_add]; exact hst) (fun h => by cases h)
    unfold Oper.wp
    rw [hex _ _ _ _ _ rfl hrun]
    obtain ⟨q1, q2⟩ := splice_rows hR hob hsz m1 m2 hnn hle hmx m6 m3 m4 m5 hnl p3 n1 n2 hX hl.length (vC (.sl id 0 (n + m))) (id :: rd)
    refine ⟨_, g, rfl, ?_, q1, q2⟩
    have := RC.sl (w := w.setRow l.blk X) (g := g) (id := id) (l := l) 0 (n + m) m1 hn (by omega)
    simp only [Nat.zero_mul, Nat.sub_zero, m2] at this
    exact .e (.c this)
theorem OpS.appendIn {sz by_ : Nat} {z : List D} {ax ay : AX} {id n sz' m : Nat} {rows old : List (List D)} {rd : List Nat} (e1 : ev ρ ax = some (vC (.sl id 0 n))) (e2 : (ev ρ ay).bind (shows hl) = some (sz', m, rows, rd)) (hid : Ytheaeddojcebjaa.hx hl id = .arr sz old) (p1 : m = 0 ∨ sz' = sz) (p2 : m ≤ rows.length) (p3 : n + m ≤ old.length) (p0 : 0 < old.length) :
    OpS P N (.append sz by_ z ax ay) ρ hl { v := vC (.sl id 0 (n + m)), wr := [(id, .arr sz (old.take n ++ rows.take m ++ old.drop (n + m)))], rd := id :: rd } := by
  refine ⟨fun i hi => ?_, fun o ho => ?_⟩
  · simp [Res.ids] at hi
    subst hi
    rcases Nat.lt_or_ge i hl.length with h | h
    · exact h
    · simp [Ytheaeddojcebjaa.hx, List.getD_eq_getElem?_getD, List.getElem?_eq_none h] at hid
  · obtain ⟨c, e, t2, hop, hcl, hu1, hu2, ht2, hargs, hs, hb, hz, hsz, hzl⟩ := trOp_append ho
    obtain ⟨sT, ht0, hu1⟩ := get0 hu1
    obtain ⟨xT, ht1, hu2⟩ := get1 hu2
    obtain ⟨x, y, hx, h1, h2⟩ := listM_two hargs
    obtain ⟨zv, z1, z2, z3⟩ := zeroD_ok hz
    have hxt : (∃ e', P.underlying xT = some (.slice e')) ∨ P.underlying xT = some .string := by
      rcases ht2 with ⟨e', rfl⟩ | rfl
      · exact .inl ⟨e', hu2⟩
      · exact .inr hu2
    cases hvy : ev ρ ay with
    | none => simp [hvy] at e2
    | some vy =>
      simp only [hvy, Option.bind_some] at e2
      exact s_appendIn hop hcl ht0 ht1 hx h1 (mem_xts (by simp [AOp.xs])) hsz e1 (by rw [List.length_take]; omega) (appSrc_list h2 (mem_xts (by simp [AOp.xs])) hu1 hxt hs hb z1 hvy e2 p1 p2) hid p3 p0
end

def fewS (l : List Obj) : Bool := l.all fun o => decide (o.2.size ≤ 300)
theorem fewS_cons (o : Obj) (l : List Obj) : fewS (o :: l) = (decide (o.2.size ≤ 300) && fewS l) := rfl
theorem few7_ok {l : List Obj} (hl : l.length ≤ 9223372036854775807) : FnOk Try.prog 25 [vD (lO l)] [] (vB (decide (l.length ≤ 60) && fewS l)) [] := by
  refine FnOk.start t25 rfl rfl rfl ?_
  refine Tri.seq (Tri.go [] rfl trivial ?_)
  refine Tri.mid (fun ρ hl => hl = [] ∧ (l.length ≤ 60 → fewS l = true) ∧ keepE ρ [0] = some [(0, vD (lO l))]) ?_ ?_
  · refine Tri.seq (Tri.go [] rfl trivial ?_)
    refine Tri.block ?_
    refine Tri.lp (fun q ρ hl => ∃ i, q = 61 - i ∧ i ≤ 61 ∧ i ≤ l.length ∧ fewS l = fewS (l.drop i) ∧ hl = [] ∧ keepE ρ [0, 3] = some [(0, vD (lO l)), (3, vI .i64 i)]) 61 ⟨0, by omega, by omega, by omega, rfl, rfl, keep_of rfl rfl⟩ ?_
    rintro q ρ hl' ⟨i, rfl, hi, hil, he, rfl, hkk⟩
    refine Tri.keep _ hkk ?_
    by_cases h : i < l.length
    · by_cases h60 : i ≤ 60
      · have hg := oRows_get h
        rw [List.drop_eq_getElem_cons h, fewS_cons] at he
        generalize l[i] = o at *
        refine Tri.seq (Tri.go [.b 8 true, .b 11 true] rfl ⟨decide_eq_true (by omega), decide_eq_true (by omega), trivial⟩ ?_)
        by_cases c1 : 300 < o.2.size
        · have hf : fewS l = false := by rw [he, decide_eq_false (by omega)]; rfl
          refine Tri.tree (.a (.at [.int .i64 o.1, .str o.2]) (.a (.b 20 true) .nil)) rfl ⟨⟨by omega, rfl, hg⟩, decide_eq_true (by omega), ?_⟩
          rw [hf, Bool.and_false]
          exact RetQ.le [] [] rfl trivial (.refl _) .nil
        · rw [decide_eq_true (by omega), Bool.true_and] at he
          refine Tri.seq (Tri.block (Tri.tree (.a (.at [.int .i64 o.1, .str o.2]) (.a (.b 20 false) .nil)) rfl ⟨⟨by omega, rfl, hg⟩, decide_eq_false (by omega), ?_⟩))
          exact Tri.go [] rfl ⟨by omega, trivial⟩ (again (61 - (i + 1)) (by omega) ⟨i + 1, rfl, by omega, by omega, he, rfl, keep_of rfl (by simp)⟩)
      · exact Tri.go [.b 8 true, .b 11 false] rfl ⟨decide_eq_true (by omega), decide_eq_false (by omega), trivial⟩ (And.intro rfl (And.intro (fun h => by omega) (keep_of rfl rfl)))
    · have : l.drop i = [] := List.drop_eq_nil_of_le (by omega)
      rw [this] at he
      exact Tri.go [.b 8 false, .b 11 false] rfl ⟨decide_eq_false (by omega), rfl, trivial⟩ (And.intro rfl (And.intro (fun _ => he) (keep_of rfl rfl)))
  rintro ρ hl' ⟨rfl, hh, hkk⟩
  refine Tri.keep _ hkk ?_
  refine Tri.treeR .nil rfl ⟨trivial, rfl, ?_⟩
  by_cases h : l.length ≤ 60
  · rw [hh h]; simp [leP, leE, leC]; omega
  · simp [leP, leE, leC, h]; omega
theorem idsF_of : ∀ {l : List Obj} {p : Int}, (l.Pairwise fun a b => a.1 < b.1) → (∀ o ∈ l, 0 ≤ o.1 ∧ o.1 ≤ 255) → (∀ o ∈ l, p < o.1) → idsF p l = true
  | [], p, _, _, _ => rfl
  | o :: l, p, h1, h2, h3 => by
    rw [List.pairwise_cons] at h1
    rw [idsF_cons, idsF_of h1.2 (fun x hx => h2 x (by simp [hx])) h1.1]
    have := h2 o (by simp)
    have := h3 o (by simp)
    simp
    omega
theorem check0 (ks : List Int) : checkL (objsG7 ks) = 0 := by
  obtain ⟨ho, h3, _⟩ := objsG7_ok ks
  have hids := idsF_of (p := -1) ho.up ho.id (fun o h => by have := ho.id o h; omega)
  have hsz : szF (objsG7 ks) = true := by
    unfold szF
    rw [List.all_eq_true]
    exact fun o h => decide_eq_true (ho.sz o h)
  have hhd : ∃ a b c r, objsG7 ks = (0, a) :: (1, b) :: (2, c) :: r := by
    obtain ⟨j, h1, _⟩ := objF_made ks 40 2 baseO objects0 (by omega)
    obtain ⟨_, _, a, b, c, r, e⟩ := h1
    cases ks with
    | nil => exact ⟨a, b, c, r, e⟩
    | cons k t => exact ⟨a, _, c, r, by rw [objsG7, e]; rfl⟩
  obtain ⟨a, b, c, r, e⟩ := hhd
  have hh : (hasR (objsG7 ks) 0 && (hasR (objsG7 ks) 1 && hasR (objsG7 ks) 2)) = true := by rw [e]; simp [hasR]
  rw [checkL, hids, if_pos rfl, hsz, if_pos rfl, has_eq hids, hh, if_pos rfl]
theorem putAt0 (a : Int) (b : ByteArray) (n : Int) : putAt [D.int .i64 a, D.str b] 0 [D.int .i64 n] = [D.int .i64 n, D.str b] := rfl
theorem putAt1 (a : Int) (b s : ByteArray) : putAt [D.int .i64 a, D.str b] 1 [D.str s] = [D.int .i64 a, D.str s] := rfl
theorem oR_mod {l : List Obj} {k : Nat} (h : k < l.length) {f : List D → List D} {o : Obj} (hf : f [.int .i64 l[k].1, .str l[k].2] = [.int .i64 o.1, .str o.2]) : (oRows l).modify k f = oRows (l.set k o) := by
  apply List.ext_getElem?
  intro j
  rw [List.getElem?_modify]
  by_cases hj : k = j
  · subst hj
    simp only [oRows_get h, if_true, Option.map_eq_map, Option.map_some, hf]
    rw [oRows_get (by simpa using h)]
    simp
  · simp only [hj, if_false, oRows, List.getElem?_map, List.getElem?_set_ne hj]
    cases l[j]? <;> rfl
theorem idenChecks_ok {l : List Obj} (hl : l.length ≤ 9223372036854775807) (hlo : ∀ o ∈ l, b64 o.1) {ks : List Int} (hk : ∀ x ∈ ks, b64 x) (hm : ks.length ≤ 9223372036854775807) {wh n : Int} (hw : b64 wh) (hn : b64 n) :
    FnOk Try.prog 5 [vD (lO l), vD (lI .i64 ks), vI .i64 wh, vI .i64 n] [] (vB true) [] := by
  have haw := awake7_ok
  have hfew := few7_ok hl
  by_cases hf : (decide (l.length ≤ 60) && fewS l) = true
  case neg =>
    rw [show (decide (l.length ≤ 60) && fewS l) = false by simpa using hf] at hfew
    exact FnOk.tree t5 (.f [] hfew (.a (.b 15 true) (.a (.b 18 true) (.f [] haw .nil)))) rfl rfl rfl rfl ⟨trivial, by simp [leVs, leP, leE, leC], rfl, rfl, trivial, trivial, trivial, rfl, leP_refl _⟩
  rw [hf] at hfew
  rw [Bool.and_eq_true, decide_eq_true_eq] at hf
  have hlsz : ∀ o ∈ l, b64 o.1 ∧ o.2.size ≤ 1000000 := fun o ho => ⟨hlo o ho, by have := of_decide_eq_true (List.all_eq_true.1 hf.2 o ho); omega⟩
  have hob := objects7_ok hk hm
  obtain ⟨ho, ho3, ho43⟩ := objsG7_ok ks
  have hck0 := check0 ks
  generalize objsG7 ks = x at *
  have hxsz : ∀ o ∈ x, b64 o.1 ∧ o.2.size ≤ 1000000 := fun o h => by
    have a1 := ho.id o h
    have a2 := ho.sz o h
    simp only [b64]; omega
  have hle := lentObjects_ok (l := l) (by omega)
  have hst := staysObjects_ok (l := l) (by omega)
  have hc1 := check_ok (l := l) (by omega) hlo
  have hc2 := rObjs7_ok (l := l) (by omega) hlsz
  have hc3 := check_ok (l := x) (by omega) fun o h => (hxsz o h).1
  rw [hck0] at hc3
  have hv1 := level_ok (l := x) (by omega)
  have hv2 := rLevel_ok (l := x) (by omega)
  have htk : (oRows (lentO l 3)).take l.length = oRows l := by rw [oRows_take, lentO, List.take_left']; rfl
  have htx : (oRows x).take x.length = oRows x := List.take_of_length_le (by simp)
  have hwn := within_ok (k := n) (n := x.length) hn (by omega)
  have hnr : 0 ≤ n % x.length ∧ n % x.length < x.length := ⟨Int.emod_nonneg _ (by omega), Int.emod_lt_of_pos _ (by omega)⟩
  obtain ⟨k, hkk⟩ := Int.eq_ofNat_of_zero_le hnr.1
  rw [hkk] at hwn hnr
  have hkx : k < x.length := by omega
  have hw4 := within_ok (k := wh) (n := 4) hw (by omega)
  have hwr : 0 ≤ wh % 4 ∧ wh % 4 < 4 := ⟨Int.emod_nonneg _ (by omega), Int.emod_lt_of_pos _ (by omega)⟩
  have h9 := within_ok (k := n) (n := 9) hn (by omega)
  have h9r : 0 ≤ n % 9 ∧ n % 9 < 9 := ⟨Int.emod_nonneg _ (by omega), Int.emod_lt_of_pos _ (by omega)⟩
  refine FnOk.start t5 rfl rfl rfl ?_
  refine Tri.seq (Tri.go [] rfl trivial ?_)
  refine Tri.seq (Tri.tree (.f [] hfew (.a (.b 15 false) (.f [] haw (.a (.b 18 false) .nil)))) rfl ⟨trivial, by simp [leVs, leP, leE, leC], rfl, trivial, trivial, rfl, ?_⟩)
  refine Tri.seq (Tri.tree (.f [] hle .nil) rfl ⟨trivial, by simp [leVs, leP, leE, leC], ?_⟩)
  refine Tri.seq (Tri.tree (.f [] hc1 (.f [] hc2 (.a (.b 27 false) (.f [] hst (.a (.b 32 false) .nil))))) rfl ⟨trivial, by simp [leVs, leP, leE, leC, htk], trivial, by simp [leVs, leP, leE, leC], by simp, trivial, by simp [leVs, leP, leE, leC], rfl, ?_⟩)
  refine Tri.seq (Tri.tree (.o [] [] hob .nil) rfl ⟨trivial, by simp [leVs, leP, leE, leC], rfl, ?_⟩)
  have hx0 : leVs [vD (.ls 2 x.length (List.drop 0 (oRows x)))] [vD (lO x)] := by simp [leVs, leP, leE, leC]
  refine Tri.seq (Tri.tree (.f [0] hc3 (.a (.b 38 false) (.f [0] hv1 (.f [0] hv2 (.a (.b 44 false) .nil))))) rfl ⟨⟨by simp, trivial⟩, hx0, by simp, ⟨by simp, trivial⟩, hx0, ⟨by simp, trivial⟩, hx0, by simp, ?_⟩)
  refine Tri.seq (Tri.tree (.f [] hwn .nil) rfl ⟨trivial, by simp [leVs, leP, leE, leC], ?_⟩)
  refine Tri.mid (fun ρ hl => ∃ X rows, (∀ o ∈ X, b64 o.1 ∧ o.2.size ≤ 1000000) ∧ X.length ≤ 1000 ∧ rows.take X.length = oRows X ∧ X.length ≤ rows.length ∧ ((hl = [.arr 2 rows] ∧ keepE ρ [10] = some [(10, vC (.sl 0 0 X.length))]) ∨ (∃ r2, hl = [.arr 2 rows, .arr 1 r2] ∧ keepE ρ [10] = some [(10, vC (.sl 0 0 X.length))]) ∨ (hl = [.dead, .arr 2 rows] ∧ keepE ρ [10] = some [(10, vC (.sl 1 0 X.length))]))) ?_ ?_
  · have hg := oRows_get hkx
    have hsetm : ∀ o : Obj, b64 o.1 ∧ o.2.size ≤ 1000000 → ∀ p ∈ x.set k o, b64 p.1 ∧ p.2.size ≤ 1000000 := fun o h p hp => by
      rcases List.mem_or_eq_of_mem_set hp with hp | rfl
      · exact hxsz p hp
      · exact h
    have hxk := hxsz _ (List.getElem_mem hkx)
    have : wh % 4 = 0 ∨ wh % 4 = 1 ∨ wh % 4 = 2 ∨ wh % 4 = 3 := by omega
    rcases this with e | e | e | e
    · rw [e] at hw4
      refine Tri.seq (Tri.tree (.f [] hw4 .nil) rfl ⟨trivial, by simp [leVs, leP, leE, leC], ?_⟩)
      have hmod := oR_mod hkx (f := fun r => putAt r 0 [.int .i64 n]) (o := (n, x[k].2)) rfl
      refine Tri.block (Tri.tree .nil rfl ⟨⟨by omega, by omega, rfl⟩, ⟨rfl, by simp; omega, by omega⟩, x.set k (n, x[k].2), _, hsetm _ ⟨hn, hxk.2⟩, by simp; omega, ?_, ?_, .inl ⟨rfl, keep_of rfl (by simp)⟩⟩)
      · simp only [Int.toNat_natCast, Nat.zero_add]
        rw [hmod]
        exact List.take_of_length_le (by simp)
      · simp
    · rw [e] at hw4
      refine Tri.seq (Tri.tree (.f [] hw4 .nil) rfl ⟨trivial, by simp [leVs, leP, leE, leC], ?_⟩)
      obtain ⟨j, hj⟩ := Int.eq_ofNat_of_zero_le h9r.1
      rw [hj] at h9 h9r
      have hn240 : (240 + (j : Int)).toNat = 240 + j := by omega
      have hmod := oR_mod hkx (f := fun r => putAt r 1 [.str (bytesOf (List.replicate (240 + j) 0))]) (o := (x[k].1, bytesOf (List.replicate (240 + j) 0))) rfl
      refine Tri.block (Tri.tree (.f [] h9 (.a (.tx (List.replicate (240 + j) 0)) .nil)) rfl ⟨trivial, by simp [leVs, leP, leE, leC], by omega, ⟨by omega, by omega, by omega, by omega⟩, ⟨.inr rfl, by simp, by rw [hn240]; simp⟩, ⟨by omega, by omega, rfl⟩, ⟨rfl, by simp; omega, by omega⟩, x.set k (x[k].1, bytesOf (List.replicate (240 + j) 0)), _, hsetm _ ⟨hxk.1, by simp [bytesOf_size]; omega⟩, by simp; omega, ?_, ?_, .inr (.inl ⟨_, rfl, keep_of rfl (by simp)⟩)⟩)
      · simp only [Int.toNat_natCast, Nat.zero_add]
        rw [hmod]
        exact List.take_of_length_le (by simp)
      · simp
    · rw [e] at hw4
      refine Tri.seq (Tri.tree (.f [] hw4 .nil) rfl ⟨trivial, by simp [leVs, leP, leE, leC], ?_⟩)
      refine Tri.block ?_
      refine Tri.seq (Tri.go [] rfl trivial ?_)
      refine Tri.cond rfl (fun h => by simp at h) (fun _ => ?_)
      refine Tri.seq (Tri.go [] rfl trivial ?_)
      refine Tri.cond rfl (fun h => by simp at h) (fun _ => ?_)
      refine Tri.seq (Tri.go [] rfl trivial ?_)
      refine Tri.cond rfl (fun _ => ?_) (fun h => by simp at h)
      refine Tri.region ?_
      refine Rg.run 7 rfl ?_ ?_
      · exact ⟨trivial, trivial, ⟨by simp, by simp, by simp; omega, rfl⟩, trivial, trivial, ⟨by omega, by omega⟩, ⟨by simp; omega, by simp; omega, by simp, rfl⟩, trivial⟩
      refine Rg.by _ rfl (OpS.appendIn (id := 0) rfl rfl rfl (.inr rfl) ?_ ?_ ?_) rfl rfl rfl ?_
      · simp
      · simp; omega
      · simp; omega
      refine Rg.last rfl ⟨trivial, trivial⟩ ⟨fun u hu => by cases hu; rfl, ?_⟩
      have hlen : (x.take k ++ x.drop (k + 1)).length = k + (x.length - (k + 1)) := by simp; omega
      have hdl : ((oRows x).drop (k + 1)).take (x.length - (k + 1)) = oRows (x.drop (k + 1)) := by rw [List.take_of_length_le (by simp)]; simp [oRows, List.map_drop]
      have htl : (oRows x).take k = oRows (x.take k) := by simp [oRows, List.map_take]
      refine ⟨x.take k ++ x.drop (k + 1), _, ?_, by rw [hlen]; omega, ?_, ?_, .inl ⟨rfl, keep_of rfl ?_⟩⟩
      · intro o ho
        rcases List.mem_append.1 ho with ho | ho
        · exact hxsz o (List.mem_of_mem_take ho)
        · exact hxsz o (List.mem_of_mem_drop ho)
      · simp only [Option.getD_some, Option.getD_none, Int.toNat_natCast, Int.toNat_zero, Nat.sub_zero, Nat.zero_add, show ((k : Int) + 1).toNat = k + 1 by omega]
        rw [hdl, htl, rO_app]
        exact List.take_left' (by simp)
      · simp only [Option.getD_some, Option.getD_none, Int.toNat_natCast, Int.toNat_zero, Nat.sub_zero, Nat.zero_add, show ((k : Int) + 1).toNat = k + 1 by omega]
        rw [hdl, htl, rO_app]
        simp
      · simp only [Option.getD_some, Option.getD_none, Int.toNat_natCast, Int.toNat_zero, Nat.sub_zero, show ((k : Int) + 1).toNat = k + 1 by omega, hlen]
    · rw [e] at hw4
      refine Tri.seq (Tri.tree (.f [] hw4 .nil) rfl ⟨trivial, by simp [leVs, leP, leE, leC], ?_⟩)
      refine Tri.block (Tri.tree (.a (.at [.int .i64 x[k].1, .str x[k].2]) .nil) rfl ⟨⟨by omega, by omega, rfl⟩, ⟨by simpa using hg, by simp⟩, ⟨⟨rfl, by simp⟩, trivial⟩, ⟨.inr rfl, rfl, by simp, by simp, by omega, by omega⟩, x ++ [x[k]], _, ?_, by simp; omega, ?_, ?_, .inr (.inr ⟨rfl, keep_of rfl (by simp)⟩)⟩)
      · intro o ho
        rcases List.mem_append.1 ho with ho | ho
        · exact hxsz o ho
        · rw [List.mem_singleton.1 ho]; exact hxk
      · rw [List.take_of_length_le (by simp)]; simp [oRows]
      · simp
  rintro ρ hl' ⟨X, rows, hX, hXl, hrt, hrl, hh⟩
  have hC := check_ok (l := X) (by omega) fun o h => (hX o h).1
  have hD := rObjs7_ok (l := X) (by omega) hX
  rcases hh with ⟨rfl, hkk⟩ | ⟨r2, rfl, hkk⟩ | ⟨rfl, hkk⟩
  · refine Tri.keep _ hkk ?_
    exact Tri.treeR (.f [0] hC (.f [0] hD .nil)) rfl ⟨⟨by omega, trivial⟩, by simp [leVs, leP, leE, leC, hrt], ⟨by omega, trivial⟩, by simp [leVs, leP, leE, leC, hrt], trivial, rfl, by simp [leP, leE, leC]⟩
  · refine Tri.keep _ hkk ?_
    exact Tri.treeR (.f [0] hC (.f [0] hD .nil)) rfl ⟨⟨by omega, trivial⟩, by simp [leVs, leP, leE, leC, hrt], ⟨by omega, trivial⟩, by simp [leVs, leP, leE, leC, hrt], trivial, rfl, by simp [leP, leE, leC]⟩
  · refine Tri.keep _ hkk ?_
    exact Tri.treeR (.f [1] hC (.f [1] hD .nil)) rfl ⟨⟨by omega, trivial⟩, by simp [leVs, leP, leE, leC, hrt], ⟨by omega, trivial⟩, by simp [leVs, leP, leE, leC, hrt], trivial, rfl, by simp [leP, leE, leC]⟩
end Go.Proofs.Ytheaeddojcebjaa
