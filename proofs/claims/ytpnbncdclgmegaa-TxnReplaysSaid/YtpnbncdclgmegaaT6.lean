/-
  The store: once, Install.
-/
import Derived.Test.YtpnbncdclgmegaaT5
set_option maxRecDepth 100000
set_option maxHeartbeats 1000000
set_option linter.unusedVariables false
set_option linter.unusedSimpArgs false
namespace Go.Proofs.Ytpnbncdclgmegaa
open Go.RowKit

def keyC (c : Cel) : Key := (c.1, c.2.1)
/-- The keys that were seen. -/
def smE (i : Nat) (k : Key) : Nat × Key × MV := (i, k, .o [.bool true])
def smOf (ks : List Key) : Cm := ⟨ks.length, (List.range ks.length).zipWith smE ks⟩
theorem smOf_len (ks : List Key) : (smOf ks).es.length = ks.length := by simp [smOf]
theorem smOf_at (ks : List Key) (k : Key) : (smOf ks).at k = ks.findIdx (· == k) := by
  unfold Cm.at smOf
  have : ∀ (L : List Key) (R : List Nat), R.length = L.length → List.findIdx (fun e : Nat × Key × MV => e.2.1 == k) (R.zipWith smE L) = List.findIdx (· == k) L := by
    intro L
    induction L with
    | nil => intro R h; simp
    | cons e L ih =>
      intro R h
      cases R with
      | nil => simp at h
      | cons r R => simp [List.findIdx_cons, smE, ih R (by simpa using h)]
  exact this ks _ (by simp)
theorem smOf_in {ks : List Key} {k : Key} (h : ks.contains k = true) : (smOf ks).get k = some (.o [.bool true]) := by
  have hlt : ks.findIdx (· == k) < ks.length := by
    rw [List.findIdx_lt_length]
    exact ⟨k, by simpa using h, by simp⟩
  unfold Cm.get
  rw [smOf_at]
  simp [smOf, smE, hlt]
theorem smOf_out {ks : List Key} {k : Key} (h : ks.contains k = false) : (smOf ks).get k = none ∧ (smOf ks).set k (.o [.bool true]) = smOf (ks ++ [k]) := by
  have hge : ks.findIdx (· == k) = ks.length := by
    rw [List.findIdx_eq_length]
    intro x hx
    have : x ≠ k := by rintro rfl; simp at h; exact h hx
    simpa using this
  have hat := smOf_at ks k
  constructor
  · unfold Cm.get
    rw [hat, hge, List.getElem?_eq_none (by rw [smOf_len]; omega)]
    rfl
  · unfold Cm.set
    rw [hat, hge, if_neg (by rw [smOf_len]; omega)]
    unfold Cm.new smOf
    simp only [List.length_append, List.length_cons, List.length_nil, Nat.zero_add]
    congr 1
    rw [List.range_succ, List.zipWith_append (by simp)]
    rfl
def onceF : List Key → List Cel → Bool
  | _, [] => true
  | ks, c :: l => !(ks.contains (keyC c)) && (cellR c && onceF (ks ++ [keyC c]) l)
def onceL (l : List Cel) : Bool := onceF [] l && decide (0 < l.length)
theorem once_ok {l : List Cel} (hl : l.length ≤ 1000000000000) : FnOk Try.prog 53 [vCl l] [] (vB (onceL l)) [] := by
  refine FnOk.start t53 rfl rfl rfl ?_
  refine Tri.seq (Tri.go [] rfl trivial ?_)
  refine Tri.seq (Tri.go [] rfl ⟨trivial, trivial⟩ ?_)
  refine Tri.mid (fun ρ hl => hl = [] ∧ onceF [] l = true ∧ keepE ρ [0] = some [(0, vCl l)]) ?_ ?_
  · refine Tri.seq (Tri.go [] rfl trivial ?_)
    refine Tri.block ?_
    refine Tri.lp (fun q ρ hl => ∃ i, q = l.length - i ∧ i ≤ l.length ∧ onceF [] l = onceF ((l.map keyC).take i) (l.drop i) ∧ hl = [.cm false (smOf ((l.map keyC).take i)) none] ∧
      keepE ρ [0, 3, 9, 10, 11] = some [(0, vCl l), (3, vC (.mp 0)), (9, vCl l), (10, vI .i64 l.length), (11, vI .i64 i)]) l.length ⟨0, by omega, by omega, rfl, rfl, keep_of rfl rfl⟩ ?_
    rintro q ρ hl' ⟨i, rfl, hi, he, rfl, hkk⟩
    refine Tri.keep _ hkk ?_
    by_cases h : i < l.length
    · have hg := rwC_get h
      have htk : (l.map keyC).take (i + 1) = (l.map keyC).take i ++ [keyC l[i]] := by
        rw [← List.take_append_getElem (by simpa using h)]
        simp
      rw [List.drop_eq_getElem_cons h, onceF, ← htk] at he
      generalize l[i] = c at *
      have hcr := cRight_ok (c := c)
      refine Tri.seq (Tri.go [] rfl trivial (Tri.seq (Tri.go [.b 12 true] rfl ⟨decide_eq_true (by omega), trivial⟩ ?_)))
      cases hct : ((l.map keyC).take i).contains (keyC c) with
      | true =>
        rw [hct] at he
        refine Tri.seq (Tri.block (Tri.tree (.a (.at [.int .i64 c.1, .int .i64 c.2.1, .int .u16 c.2.2]) (.a (.mp (some [.bool true])) .nil)) rfl ⟨⟨by omega, rfl, hg⟩, by simp, ⟨smOf_in hct, rfl⟩, ?_⟩))
        have : onceL l = false := by unfold onceL; rw [he]; simp
        rw [this]
        exact RetQ.le [] [] rfl trivial (.refl _) (.refl _)
      | false =>
        rw [hct] at he
        obtain ⟨o1, o2⟩ := smOf_out hct
        cases hc : cellR c with
        | false =>
          rw [hc] at he hcr
          refine Tri.seq (Tri.block (Tri.tree (.a (.at [.int .i64 c.1, .int .i64 c.2.1, .int .u16 c.2.2]) (.a (.mp none) (.f [] hcr .nil))) rfl ⟨⟨by omega, rfl, hg⟩, by simp, o1, trivial, by simp [leVs, leP, leE, leL, leC], ?_⟩))
          have : onceL l = false := by unfold onceL; rw [he]; simp
          rw [this]
          exact RetQ.le [] [] rfl trivial (.refl _) (.refl _)
        | true =>
          rw [hc] at he hcr
          refine Tri.seq (Tri.block (Tri.tree (.a (.at [.int .i64 c.1, .int .i64 c.2.1, .int .u16 c.2.2]) (.a (.mp none) (.f [] hcr .nil))) rfl ⟨⟨by omega, rfl, hg⟩, by simp, o1, trivial, by simp [leVs, leP, leE, leL, leC], ?_⟩))
          have o2 : (smOf ((l.map keyC).take i)).set (c.1, c.2.1) (.o [.bool true]) = _ := o2
          rw [o2]
          refine ⟨trivial, ?_⟩
          refine Tri.let [0] [] [0, 3, 9, 10, 11] rfl trivial ?_
          refine Tri.go [] rfl ⟨by omega, trivial⟩ (again (l.length - (i + 1)) (by omega) ⟨i + 1, rfl, by omega, by simpa using he, by rw [htk], keep_of rfl (by simp)⟩)
    · have : i = l.length := by omega
      subst this
      rw [List.drop_length] at he
      refine Tri.let [] [] [0, 9, 10, 11] rfl trivial ?_
      exact Tri.seq (Tri.go [] rfl trivial (Tri.seq (Tri.go [.b 12 false] rfl ⟨decide_eq_false (by omega), trivial⟩ (And.intro rfl (And.intro he (keep_of rfl rfl))))))
  rintro ρ hl' ⟨rfl, he, hkk⟩
  refine Tri.keep _ hkk ?_
  unfold onceL
  rw [he]
  refine Tri.treeR .nil rfl ?_
  simp [leP, leE, leC]
/-- A version behind a chain. -/
def addK (L : Chs) (k : Key) (v : Int × Int) : Chs := if idxK L k < L.length then L.modify (idxK L k) fun e => (e.1, e.2 ++ [v]) else L ++ [(k, [v])]
theorem addK_len (L : Chs) (k : Key) (v : Int × Int) : L.length ≤ (addK L k v).length ∧ (addK L k v).length ≤ L.length + 1 := by
  unfold addK
  split <;> simp
theorem cmOf_put {L : Chs} {j : Nat} (h : j < L.length) (l : Ch) : (cmOf L).put j (.i 2 (rwV l)) = cmOf (L.modify j fun e => (e.1, l)) := by
  unfold cmOf Cm.put
  simp only [List.length_modify]
  congr 1
  apply List.ext_getElem?
  intro i
  simp only [List.getElem?_modify, List.getElem?_zipWith, cmE]
  by_cases hij : j = i
  · subst hij
    simp [h]
  · simp [hij]
theorem cmOf_idx {L : Chs} {j : Nat} (h : j < L.length) : (cmOf L).idx (j : Int) = j := by
  unfold Cm.idx cmOf
  rw [List.findIdx_eq (by simpa using h)]
  simp [cmE]
  intro i hi
  omega
theorem cmOf_st {L : Chs} {j : Nat} (h : j < L.length) : (cmOf L).st j = j := by
  unfold Cm.st
  rw [cmOf_get h]
  rfl
/-- A key that is not there yet. -/
theorem cmNew_put {L : Chs} {k : Key} {l : Ch} {v : MV} : ((cmOf L).new k v).put L.length (.i 2 (rwV l)) = cmOf (L ++ [(k, l)]) := by
  unfold cmOf Cm.new Cm.put
  simp only [List.length_append, List.length_cons, List.length_nil, Nat.zero_add]
  congr 1
  rw [List.range_succ, List.zipWith_append (by simp)]
  have := mod_mid (fun e : Nat × Key × MV => (e.1, e.2.1, .i 2 (rwV l))) (L.length, k, v) [] ((List.range L.length).zipWith cmE L)
  simp only [List.length_zipWith, List.length_range, Nat.min_self] at this
  rw [this]
  rfl
theorem cmNew_idx {L : Chs} {k : Key} {v : MV} : ((cmOf L).new k v).idx (L.length : Int) = L.length := by
  unfold Cm.idx cmOf Cm.new
  rw [List.findIdx_eq (by simp)]
  simp [cmE]
  intro i hi
  rw [List.getElem_append_left (by simpa using hi)]
  simp [cmE]
  omega
theorem chK_new {L : Chs} {k : Key} (h : ¬ idxK L k < L.length) : chK L k = [] := by
  unfold chK
  rw [List.getElem?_eq_none (by omega)]
def addsK (L : Chs) (q : Int) (l : List Cel) : Chs := l.foldl (fun L c => addK L (keyC c) (q, c.2.2)) L
theorem addsK_succ {L : Chs} {q : Int} {l : List Cel} {i : Nat} (h : i < l.length) : addsK L q (l.take (i + 1)) = addK (addsK L q (l.take i)) (keyC l[i]) (q, l[i].2.2) := by
  unfold addsK
  rw [← List.take_append_getElem h, List.foldl_append]
  rfl
theorem addsK_len {q : Int} : ∀ (l : List Cel) (L : Chs), (addsK L q l).length ≤ L.length + l.length
  | [], L => by simp [addsK]
  | c :: l, L => by
    have h1 := addsK_len (q := q) l (addK L (keyC c) (q, c.2.2))
    have h2 := (addK_len L (keyC c) (q, c.2.2)).2
    have : addsK L q (c :: l) = addsK (addK L (keyC c) (q, c.2.2)) q l := rfl
    rw [this]
    simp
    omega
/-- Chains are not empty, and not too long. -/
def ChOk (m : Nat) (L : Chs) : Prop := ∀ e ∈ L, 0 < e.2.length ∧ e.2.length ≤ m
theorem addK_ok {m : Nat} {L : Chs} {k : Key} {v : Int × Int} (h : ChOk m L) : ChOk (m + 1) (addK L k v) := by
  unfold addK
  split
  · intro e he
    obtain ⟨j, hj⟩ := List.mem_iff_getElem?.1 he
    rw [List.getElem?_modify] at hj
    cases hL : L[j]? with
    | none => rw [hL] at hj; simp at hj
    | some x =>
      rw [hL] at hj
      have hx := h x (List.mem_of_getElem? hL)
      by_cases hi : idxK L k = j
      · simp [hi] at hj; subst hj; simp; omega
      · simp [hi] at hj; subst hj; omega
  · intro e he
    rcases List.mem_append.1 he with he | he
    · have := h e he; omega
    · simp at he; subst he; simp
theorem addsK_ok {q : Int} : ∀ (l : List Cel) {m : Nat} {L : Chs}, ChOk m L → ChOk (m + l.length) (addsK L q l)
  | [], m, L, h => h
  | c :: l, m, L, h => by
    have := addsK_ok (q := q) l (addK_ok (k := keyC c) (v := (q, c.2.2)) h)
    rw [show m + 1 + l.length = m + (c :: l).length by simp; omega] at this
    exact this
def instR (s : St) (l : List Cel) : Int × Int × St :=
  if onceL l = false then (0, 1, s) else if s.last = 18446744073709551615 then (0, 8, s) else if s.most - s.n < l.length then (0, 4, s) else (s.last + 1, 0, ⟨s.last + 1, s.n + l.length, s.most, addsK s.L (s.last + 1) l⟩)
abbrev vPair (a b : Int) : V := .tup [.c (.t (.int .u64 a)), .c (.t (.int .i64 b))]
end Go.Proofs.Ytpnbncdclgmegaa
