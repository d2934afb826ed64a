/-
  The store: New, Last, Versions, Read, Newest.
  The store: once, Install.
  The store: Install.
  What was written since: Clash, Fresh.
-/
import Derived.Test.YthddlkhfkncgpaaGreatT4
set_option maxRecDepth 100000
set_option maxHeartbeats 1000000
set_option linter.unusedVariables false
set_option linter.unusedSimpArgs false
namespace Go.Proofs.YthddlkhfkncgpaaGreat
open Go.RowKit

abbrev Key := Int × Int
/-- Chains by their keys. -/
abbrev Chs := List (Key × Ch)
def cmE (i : Nat) (e : Key × Ch) : Nat × Key × MV := (i, e.1, .i 2 (rwV e.2))
def cmOf (L : Chs) : Cm := ⟨L.length, (List.range L.length).zipWith cmE L⟩
@[simp] theorem cmOf_len (L : Chs) : (cmOf L).es.length = L.length := by simp [cmOf]
theorem cmOf_get {L : Chs} {i : Nat} (h : i < L.length) : (cmOf L).es[i]? = some (i, L[i].1, .i 2 (rwV L[i].2)) := by
  simp [cmOf, cmE, h]
def idxK (L : Chs) (k : Key) : Nat := L.findIdx fun e => e.1 == k
theorem cmOf_at (L : Chs) (k : Key) : (cmOf L).at k = idxK L k := by
  unfold Cm.at idxK cmOf
  have : ∀ (L : Chs) (R : List Nat), R.length = L.length → List.findIdx (fun e : Nat × Key × MV => e.2.1 == k) (R.zipWith cmE L) = List.findIdx (fun e => e.1 == k) L := by
    intro L
    induction L with
    | nil => intro R h; simp
    | cons e L ih =>
      intro R h
      cases R with
      | nil => simp at h
      | cons r R => simp [List.findIdx_cons, cmE, ih R (by simpa using h)]
  exact this L _ (by simp)
theorem idxK_le (L : Chs) (k : Key) : idxK L k ≤ L.length := List.findIdx_le_length
theorem idxK_key {L : Chs} {k : Key} (h : idxK L k < L.length) : L[idxK L k].1 = k := by
  have h : (L[idxK L k].1 == k) = true := List.findIdx_getElem (w := h)
  simpa using h
def chK (L : Chs) (k : Key) : Ch := match L[idxK L k]? with
  | some e => e.2
  | none => []
/-- The store: last number, how many versions, at most so many; chains. -/
structure St where
  last : Int
  n : Int
  most : Int
  L : Chs
abbrev stB (s : St) (m : Nat) : Ob := .box [.t (.int .u64 s.last), .t (.int .i64 s.n), .t (.int .i64 s.most), .mp m]
abbrev stM (s : St) : Ob := .cm false (cmOf s.L) none
structure StOk (s : St) : Prop where
  len : s.L.length ≤ 1000000000
  ch : ∀ e ∈ s.L, 0 < e.2.length ∧ e.2.length ≤ 1000000000
theorem sLast_ok {s : St} : FnOk Tryz.prog 27 [vC (.ptr 0 0)] [stB s 1, stM s] (vI .u64 s.last) [stB s 1, stM s] := by
  refine FnOk.tree t27 (.a (.call [0, 1] [] .u []) .nil) rfl rfl rfl rfl ?_
  exact ⟨trivial, .refl _, leP_refl _⟩
theorem sVers_ok {s : St} : FnOk Tryz.prog 30 [vC (.ptr 0 0)] [stB s 1, stM s] (vI .i64 s.n) [stB s 1, stM s] := by
  refine FnOk.tree t30 (.a (.call [0, 1] [] .u []) .nil) rfl rfl rfl rfl ?_
  exact ⟨trivial, .refl _, leP_refl _⟩
def newSt (a m : Int) : St := ⟨a, 0, min (max m 0) 1048576, []⟩
theorem sNew_ok {a m : Int} : FnOk Tryz.prog 59 [vI .u64 a, vI .i64 m] [] (vC (.ptr 0 0)) [stB (newSt a m) 1, stM (newSt a m)] := by
  refine FnOk.tree t59 (.a (.call [1, 0] [] .u []) .nil) rfl rfl rfl rfl ?_
  simp [leVs, leP, leE, leC, newSt]
  have e : (if 1048576 < (if m < 0 then 0 else m) then 1048576 else if m < 0 then 0 else m) = min (max m 0) 1048576 := by split <;> split <;> omega
  rw [e]
  exact .of rfl
/-- A chain's list taken out: where it stands. -/
theorem carve1 {s : St} {k : Key} (h : idxK s.L k < s.L.length) (pre : List Ob) {o : List Ob} (mid : Nat) (hm : hx o mid = stM s) : CarveTo mid (idxK s.L k) o (o.set mid (.cm false (cmOf s.L) (some (idxK s.L k, o.length, (chK s.L k).length))) ++ [.arr 2 (rwV (chK s.L k))]) := by
  refine ⟨_, _, _, _, _, hm, cmOf_get h, ?_⟩
  have : chK s.L k = s.L[idxK s.L k].2 := by unfold chK; rw [List.getElem?_eq_getElem h]
  rw [this, rwV_len]
theorem put_self {L : Chs} {j : Nat} (h : j < L.length) : (cmOf L).put j (.i 2 (rwV L[j].2)) = cmOf L := by
  have hg := cmOf_get h
  show Cm.mk _ _ = Cm.mk (cmOf L).ck (cmOf L).es
  congr 1
  apply List.ext_getElem?
  intro i
  rw [List.getElem?_modify]
  by_cases hij : j = i
  · subst hij
    rw [hg]
    simp
  · simp [hij]
theorem sRead_ok {s : St} (hs : StOk s) {t a q : Int} : FnOk Tryz.prog 227 [vC (.ptr 0 0), vK t a, vI .u64 q] [stB s 1, stM s] (vI .u16 (atL (chK s.L (t, a)) q)) [stB s 1, stM s] := by
  refine FnOk.start t227 rfl rfl rfl ?_
  refine Tri.seq (Tri.go [] rfl trivial ?_)
  by_cases h : idxK s.L (t, a) < s.L.length
  · refine Tri.carve 1 _ (carve1 (k := (t, a)) h [] 1 rfl) ?_
    have hc : (chK s.L (t, a)) = s.L[idxK s.L (t, a)].2 := by unfold chK; rw [List.getElem?_eq_getElem h]
    have hl := hs.ch _ (List.getElem_mem h)
    rw [← hc] at hl
    have hat := chAt_ok (l := chK s.L (t, a)) hl.2 (s := q)
    refine Tri.seq (Tri.tree (.f [3] hat .nil) rfl ?_)
    refine ⟨⟨cmOf_at _ _, by simpa using h, rfl⟩, by simp, by simp [leVs, leP, leE, leL, leC], ?_⟩
    refine Tri.back 1 3 ⟨_, _, _, _, _, rfl, rfl, by simp, hl.1, by simpa using h, rfl⟩ ?_
    rw [hc, put_self h]
    exact Tri.treeR (.a (.call [0, 1] [] .u []) .nil) rfl ⟨trivial, .refl _, leP_refl _⟩
  · have hc : chK s.L (t, a) = [] := by unfold chK; rw [List.getElem?_eq_none (by omega)]
    have hat := chAt_ok (l := chK s.L (t, a)) (by rw [hc]; simp) (s := q)
    rw [hc] at hat ⊢
    have hg : (cmOf s.L).get (t, a) = none := by unfold Cm.get; rw [cmOf_at, List.getElem?_eq_none (by simp; omega)]; rfl
    refine Tri.seq (Tri.tree (.a (.mp none) (.f [] hat .nil)) rfl ?_)
    refine ⟨hg, trivial, by simp [leVs, leP, leE, leL, leC, rwV], ?_⟩
    exact Tri.treeR (.a (.call [0, 1] [] .u []) .nil) rfl ⟨trivial, .refl _, leP_refl _⟩
theorem sNewest_ok {s : St} (hs : StOk s) {t a : Int} : FnOk Tryz.prog 292 [vC (.ptr 0 0), vK t a] [stB s 1, stM s] (vI .u64 (newL (chK s.L (t, a)))) [stB s 1, stM s] := by
  refine FnOk.start t292 rfl rfl rfl ?_
  refine Tri.seq (Tri.go [] rfl trivial ?_)
  by_cases h : idxK s.L (t, a) < s.L.length
  · refine Tri.carve 1 _ (carve1 (k := (t, a)) h [] 1 rfl) ?_
    have hc : (chK s.L (t, a)) = s.L[idxK s.L (t, a)].2 := by unfold chK; rw [List.getElem?_eq_getElem h]
    have hl := hs.ch _ (List.getElem_mem h)
    rw [← hc] at hl
    have hat := newest_ok (l := chK s.L (t, a)) hl.2
    refine Tri.seq (Tri.tree (.f [3] hat .nil) rfl ?_)
    refine ⟨⟨cmOf_at _ _, by simpa using h, rfl⟩, by simp, by simp [leVs, leP, leE, leL, leC], ?_⟩
    refine Tri.back 1 3 ⟨_, _, _, _, _, rfl, rfl, by simp, hl.1, by simpa using h, rfl⟩ ?_
    rw [hc, put_self h]
    exact Tri.treeR (.a (.call [0, 1] [] .u []) .nil) rfl ⟨trivial, .refl _, leP_refl _⟩
  · have hc : chK s.L (t, a) = [] := by unfold chK; rw [List.getElem?_eq_none (by omega)]
    have hat := newest_ok (l := chK s.L (t, a)) (by rw [hc]; simp)
    rw [hc] at hat ⊢
    have hg : (cmOf s.L).get (t, a) = none := by unfold Cm.get; rw [cmOf_at, List.getElem?_eq_none (by simp; omega)]; rfl
    refine Tri.seq (Tri.tree (.a (.mp none) (.f [] hat .nil)) rfl ?_)
    refine ⟨hg, trivial, by simp [leVs, leP, leE, leL, leC, rwV], ?_⟩
    exact Tri.treeR (.a (.call [0, 1] [] .u []) .nil) rfl ⟨trivial, .refl _, leP_refl _⟩
end Go.Proofs.YthddlkhfkncgpaaGreat

set_option maxRecDepth 100000
set_option maxHeartbeats 1000000
set_option linter.unusedVariables false
set_option linter.unusedSimpArgs false
namespace Go.Proofs.YthddlkhfkncgpaaGreat
open Go.RowKit

def keyC (c : Cel) : Key := (c.1, c.2.1)
/-- The keys that were seen. -/
def smE (i : Nat) (k : Key) : Nat × Key × MV := (i, k, .o [.bool true])
def smOf (ks : List Key) : Cm := ⟨ks.length, (List.range ks.length).zipWith smE ks⟩
theorem smOf_len (ks : List Key) : (smOf ks).es.length = ks.length := by simp [smOf]
theorem smOf_at (ks : List Key) (k : Key) : (smOf ks).at k = ks.findIdx (· == k) := by
  unfold Cm.at smOf
  have : ∀ (L : List Key) (R : List Nat), R.length = L.length → List.findIdx (fun e : Nat × Key × MV => e.2.1 == k) (R.zipWith smE L) = List.findIdx (· == k) L := by
    intro L
    induction L with
    | nil => intro R h; simp
    | cons e L ih =>
      intro R h
      cases R with
      | nil => simp at h
      | cons r R => simp [List.findIdx_cons, smE, ih R (by simpa using h)]
  exact this ks _ (by simp)
theorem smOf_in {ks : List Key} {k : Key} (h : ks.contains k = true) : (smOf ks).get k = some (.o [.bool true]) := by
  have hlt : ks.findIdx (· == k) < ks.length := by
    rw [List.findIdx_lt_length]
    exact ⟨k, by simpa using h, by simp⟩
  unfold Cm.get
  rw [smOf_at]
  simp [smOf, smE, hlt]
theorem smOf_out {ks : List Key} {k : Key} (h : ks.contains k = false) : (smOf ks).get k = none ∧ (smOf ks).set k (.o [.bool true]) = smOf (ks ++ [k]) := by
  have hge : ks.findIdx (· == k) = ks.length := by
    rw [List.findIdx_eq_length]
    intro x hx
    have : x ≠ k := by rintro rfl; simp at h; exact h hx
    simpa using this
  have hat := smOf_at ks k
  constructor
  · unfold Cm.get
    rw [hat, hge, List.getElem?_eq_none (by rw [smOf_len]; omega)]
    rfl
  · unfold Cm.set
    rw [hat, hge, if_neg (by rw [smOf_len]; omega)]
    unfold Cm.new smOf
    simp only [List.length_append, List.length_cons, List.length_nil, Nat.zero_add]
    congr 1
    rw [List.range_succ, List.zipWith_append (by simp)]
    rfl
def onceF : List Key → List Cel → Bool
  | _, [] => true
  | ks, c :: l => !(ks.contains (keyC c)) && (cellR c && onceF (ks ++ [keyC c]) l)
def onceL (l : List Cel) : Bool := onceF [] l && decide (0 < l.length)
theorem once_ok {l : List Cel} (hl : l.length ≤ 1000000000000) : FnOk Tryz.prog 230 [vCl l] [] (vB (onceL l)) [] := by
  refine FnOk.start t230 rfl rfl rfl ?_
  refine Tri.seq (Tri.go [] rfl trivial ?_)
  refine Tri.seq (Tri.go [] rfl ⟨trivial, trivial⟩ ?_)
  refine Tri.mid (fun ρ hl => hl = [] ∧ onceF [] l = true ∧ keepE ρ [0] = some [(0, vCl l)]) ?_ ?_
  · refine Tri.seq (Tri.go [] rfl trivial ?_)
    refine Tri.block ?_
    refine Tri.lp (fun q ρ hl => ∃ i, q = l.length - i ∧ i ≤ l.length ∧ onceF [] l = onceF ((l.map keyC).take i) (l.drop i) ∧ hl = [.cm false (smOf ((l.map keyC).take i)) none] ∧
      keepE ρ [0, 3, 9, 10, 11] = some [(0, vCl l), (3, vC (.mp 0)), (9, vCl l), (10, vI .i64 l.length), (11, vI .i64 i)]) l.length ⟨0, by omega, by omega, rfl, rfl, keep_of rfl rfl⟩ ?_
    rintro q ρ hl' ⟨i, rfl, hi, he, rfl, hkk⟩
    refine Tri.keep _ hkk ?_
    by_cases h : i < l.length
    · have hg := rwC_get h
      have htk : (l.map keyC).take (i + 1) = (l.map keyC).take i ++ [keyC l[i]] := by
        rw [← List.take_append_getElem (by simpa using h)]
        simp
      rw [List.drop_eq_getElem_cons h, onceF, ← htk] at he
      generalize l[i] = c at *
      have hcr := cRight_ok (c := c)
      refine Tri.seq (Tri.go [] rfl trivial (Tri.seq (Tri.go [.b 12 true] rfl ⟨decide_eq_true (by omega), trivial⟩ ?_)))
      cases hct : ((l.map keyC).take i).contains (keyC c) with
      | true =>
        rw [hct] at he
        refine Tri.seq (Tri.block (Tri.tree (.a (.at [.int .i64 c.1, .int .i64 c.2.1, .int .u16 c.2.2]) (.a (.mp (some [.bool true])) .nil)) rfl ⟨⟨by omega, rfl, hg⟩, by simp, ⟨smOf_in hct, rfl⟩, ?_⟩))
        have : onceL l = false := by unfold onceL; rw [he]; simp
        rw [this]
        exact RetQ.le [] [] rfl trivial (.refl _) (.refl _)
      | false =>
        rw [hct] at he
        obtain ⟨o1, o2⟩ := smOf_out hct
        cases hc : cellR c with
        | false =>
          rw [hc] at he hcr
          refine Tri.seq (Tri.block (Tri.tree (.a (.at [.int .i64 c.1, .int .i64 c.2.1, .int .u16 c.2.2]) (.a (.mp none) (.f [] hcr .nil))) rfl ⟨⟨by omega, rfl, hg⟩, by simp, o1, trivial, by simp [leVs, leP, leE, leL, leC], ?_⟩))
          have : onceL l = false := by unfold onceL; rw [he]; simp
          rw [this]
          exact RetQ.le [] [] rfl trivial (.refl _) (.refl _)
        | true =>
          rw [hc] at he hcr
          refine Tri.seq (Tri.block (Tri.tree (.a (.at [.int .i64 c.1, .int .i64 c.2.1, .int .u16 c.2.2]) (.a (.mp none) (.f [] hcr .nil))) rfl ⟨⟨by omega, rfl, hg⟩, by simp, o1, trivial, by simp [leVs, leP, leE, leL, leC], ?_⟩))
          have o2 : (smOf ((l.map keyC).take i)).set (c.1, c.2.1) (.o [.bool true]) = _ := o2
          rw [o2]
          refine ⟨trivial, ?_⟩
          refine Tri.let [0] [] [0, 3, 9, 10, 11] rfl trivial ?_
          refine Tri.go [] rfl ⟨by omega, trivial⟩ (again (l.length - (i + 1)) (by omega) ⟨i + 1, rfl, by omega, by simpa using he, by rw [htk], keep_of rfl (by simp)⟩)
    · have : i = l.length := by omega
      subst this
      rw [List.drop_length] at he
      refine Tri.let [] [] [0, 9, 10, 11] rfl trivial ?_
      exact Tri.seq (Tri.go [] rfl trivial (Tri.seq (Tri.go [.b 12 false] rfl ⟨decide_eq_false (by omega), trivial⟩ (And.intro rfl (And.intro he (keep_of rfl rfl))))))
  rintro ρ hl' ⟨rfl, he, hkk⟩
  refine Tri.keep _ hkk ?_
  unfold onceL
  rw [he]
  refine Tri.treeR .nil rfl ?_
  simp [leP, leE, leC]
/-- A version behind a chain. -/
def addK (L : Chs) (k : Key) (v : Int × Int) : Chs := if idxK L k < L.length then L.modify (idxK L k) fun e => (e.1, e.2 ++ [v]) else L ++ [(k, [v])]
theorem addK_len (L : Chs) (k : Key) (v : Int × Int) : L.length ≤ (addK L k v).length ∧ (addK L k v).length ≤ L.length + 1 := by
  unfold addK
  split <;> simp
theorem cmOf_put {L : Chs} {j : Nat} (h : j < L.length) (l : Ch) : (cmOf L).put j (.i 2 (rwV l)) = cmOf (L.modify j fun e => (e.1, l)) := by
  unfold cmOf Cm.put
  simp only [List.length_modify]
  congr 1
  apply List.ext_getElem?
  intro i
  simp only [List.getElem?_modify, List.getElem?_zipWith, cmE]
  by_cases hij : j = i
  · subst hij
    simp [h]
  · simp [hij]
theorem cmOf_idx {L : Chs} {j : Nat} (h : j < L.length) : (cmOf L).idx (j : Int) = j := by
  unfold Cm.idx cmOf
  rw [List.findIdx_eq (by simpa using h)]
  simp [cmE]
  intro i hi
  omega
theorem cmOf_st {L : Chs} {j : Nat} (h : j < L.length) : (cmOf L).st j = j := by
  unfold Cm.st
  rw [cmOf_get h]
  rfl
/-- A key that is not there yet. -/
theorem cmNew_put {L : Chs} {k : Key} {l : Ch} {v : MV} : ((cmOf L).new k v).put L.length (.i 2 (rwV l)) = cmOf (L ++ [(k, l)]) := by
  unfold cmOf Cm.new Cm.put
  simp only [List.length_append, List.length_cons, List.length_nil, Nat.zero_add]
  congr 1
  rw [List.range_succ, List.zipWith_append (by simp)]
  have := mod_mid (fun e : Nat × Key × MV => (e.1, e.2.1, .i 2 (rwV l))) (L.length, k, v) [] ((List.range L.length).zipWith cmE L)
  simp only [List.length_zipWith, List.length_range, Nat.min_self] at this
  rw [this]
  rfl
theorem cmNew_idx {L : Chs} {k : Key} {v : MV} : ((cmOf L).new k v).idx (L.length : Int) = L.length := by
  unfold Cm.idx cmOf Cm.new
  rw [List.findIdx_eq (by simp)]
  simp [cmE]
  intro i hi
  rw [List.getElem_append_left (by simpa using hi)]
  simp [cmE]
  omega
theorem chK_new {L : Chs} {k : Key} (h : ¬ idxK L k < L.length) : chK L k = [] := by
  unfold chK
  rw [List.getElem?_eq_none (by omega)]
def addsK (L : Chs) (q : Int) (l : List Cel) : Chs := l.foldl (fun L c => addK L (keyC c) (q, c.2.2)) L
theorem addsK_succ {L : Chs} {q : Int} {l : List Cel} {i : Nat} (h : i < l.length) : addsK L q (l.take (i + 1)) = addK (addsK L q (l.take i)) (keyC l[i]) (q, l[i].2.2) := by
  unfold addsK
  rw [← List.take_append_getElem h, List.foldl_append]
  rfl
theorem addsK_len {q : Int} : ∀ (l : List Cel) (L : Chs), (addsK L q l).length ≤ L.length + l.length
  | [], L => by simp [addsK]
  | c :: l, L => by
    have h1 := addsK_len (q := q) l (addK L (keyC c) (q, c.2.2))
    have h2 := (addK_len L (keyC c) (q, c.2.2)).2
    have : addsK L q (c :: l) = addsK (addK L (keyC c) (q, c.2.2)) q l := rfl
    rw [this]
    simp
    omega
/-- Chains are not empty, and not too long. -/
def ChOk (m : Nat) (L : Chs) : Prop := ∀ e ∈ L, 0 < e.2.length ∧ e.2.length ≤ m
theorem addK_ok {m : Nat} {L : Chs} {k : Key} {v : Int × Int} (h : ChOk m L) : ChOk (m + 1) (addK L k v) := by
  unfold addK
  split
  · intro e he
    obtain ⟨j, hj⟩ := List.mem_iff_getElem?.1 he
    rw [List.getElem?_modify] at hj
    cases hL : L[j]? with
    | none => rw [hL] at hj; simp at hj
    | some x =>
      rw [hL] at hj
      have hx := h x (List.mem_of_getElem? hL)
      by_cases hi : idxK L k = j
      · simp [hi] at hj; subst hj; simp; omega
      · simp [hi] at hj; subst hj; omega
  · intro e he
    rcases List.mem_append.1 he with he | he
    · have := h e he; omega
    · simp at he; subst he; simp
theorem addsK_ok {q : Int} : ∀ (l : List Cel) {m : Nat} {L : Chs}, ChOk m L → ChOk (m + l.length) (addsK L q l)
  | [], m, L, h => h
  | c :: l, m, L, h => by
    have := addsK_ok (q := q) l (addK_ok (k := keyC c) (v := (q, c.2.2)) h)
    rw [show m + 1 + l.length = m + (c :: l).length by simp; omega] at this
    exact this
def instR (s : St) (l : List Cel) : Int × Int × St :=
  if onceL l = false then (0, 1, s) else if s.last = 18446744073709551615 then (0, 8, s) else if s.most - s.n < l.length then (0, 4, s) else (s.last + 1, 0, ⟨s.last + 1, s.n + l.length, s.most, addsK s.L (s.last + 1) l⟩)
abbrev vPair (a b : Int) : V := .tup [.c (.t (.int .u64 a)), .c (.t (.int .i64 b))]
end Go.Proofs.YthddlkhfkncgpaaGreat

set_option maxRecDepth 100000
set_option maxHeartbeats 1000000
set_option linter.unusedVariables false
set_option linter.unusedSimpArgs false
namespace Go.Proofs.YthddlkhfkncgpaaGreat
open Go.RowKit

theorem inst_ok {s : St} (hlen : s.L.length ≤ 100000000) (hch : ChOk 100000000 s.L) (hlast : 0 ≤ s.last ∧ s.last ≤ 18446744073709551615) (hn : 0 ≤ s.n ∧ s.n ≤ 100000000) (hm : 0 ≤ s.most ∧ s.most ≤ 100000000) {l : List Cel} (hl : l.length ≤ 100000000) :
    FnOk Tryz.prog 182 [vC (.ptr 0 0), vCl l] [stB s 1, stM s] (vPair (instR s l).1 (instR s l).2.1) [stB (instR s l).2.2 1, stM (instR s l).2.2] := by
  have ho := once_ok (l := l) (by omega)
  refine FnOk.start t182 rfl rfl rfl ?_
  refine Tri.seq (Tri.go [] rfl trivial ?_)
  unfold instR
  cases hb : onceL l with
  | false =>
    rw [hb] at ho
    refine Tri.seq (Tri.block (Tri.tree (.f [] ho .nil) rfl ⟨trivial, by simp [leVs, leP, leE, leL, leC], ?_⟩))
    exact RetQ.le [0, 1] [] rfl trivial (.refl _) (.refl _)
  | true =>
    rw [hb] at ho
    rw [if_neg (by simp)]
    by_cases h1 : s.last = 18446744073709551615
    · rw [if_pos h1]
      refine Tri.seq (Tri.block (Tri.tree (.f [] ho (.a (.b 12 true) .nil)) rfl ⟨trivial, by simp [leVs, leP, leE, leL, leC], by simpa using h1, ?_⟩))
      exact RetQ.le [0, 1] [] rfl trivial (.refl _) (.refl _)
    rw [if_neg h1]
    by_cases h2 : s.most - s.n < l.length
    · rw [if_pos h2]
      refine Tri.seq (Tri.block (Tri.tree (.f [] ho (.a (.b 12 false) (.a (.b 18 true) .nil))) rfl ⟨trivial, by simp [leVs, leP, leE, leL, leC], by simpa using h1, by omega, by simpa using h2, ?_⟩))
      exact RetQ.le [0, 1] [] rfl trivial (.refl _) (.refl _)
    rw [if_neg h2]
    refine Tri.seq (Tri.block (Tri.tree (.f [] ho (.a (.b 12 false) (.a (.b 18 false) .nil))) rfl ⟨trivial, by simp [leVs, leP, leE, leL, leC], by simpa using h1, by omega, by simpa using h2, ?_⟩))
    have hw : IntKind.u64.wrap (s.last + 1) = s.last + 1 := by rw [wu64]; omega
    refine Tri.seq (Tri.go [] rfl ⟨trivial, trivial⟩ ?_)
    rw [hw]
    refine Tri.seq (Tri.go [] rfl ⟨by omega, trivial⟩ ?_)
    refine Tri.mid (fun ρ hl => hl = [stB ⟨s.last + 1, s.n + l.length, s.most, addsK s.L (s.last + 1) l⟩ 1, stM ⟨s.last + 1, s.n + l.length, s.most, addsK s.L (s.last + 1) l⟩] ∧ keepE ρ [0] = some [(0, vC (.ptr 0 0))]) ?_ ?_
    · refine Tri.seq (Tri.go [] rfl trivial ?_)
      refine Tri.block ?_
      refine Tri.lp (fun q ρ hl => ∃ i, q = l.length - i ∧ i ≤ l.length ∧ hl = [stB ⟨s.last + 1, s.n + l.length, s.most, addsK s.L (s.last + 1) (l.take i)⟩ 1, stM ⟨s.last + 1, s.n + l.length, s.most, addsK s.L (s.last + 1) (l.take i)⟩] ∧
        keepE ρ [0, 47, 48, 49] = some [(0, vC (.ptr 0 0)), (47, vCl l), (48, vI .i64 l.length), (49, vI .i64 i)]) l.length ⟨0, by omega, by omega, rfl, keep_of rfl rfl⟩ ?_
      rintro q ρ hl' ⟨i, rfl, hi, rfl, hkk⟩
      refine Tri.keep _ hkk ?_
      by_cases h : i < l.length
      · have hg := rwC_get h
        have hsx := addsK_succ (L := s.L) (q := s.last + 1) h
        generalize l[i] = c at *
        have hLl := addsK_len (q := s.last + 1) (l.take i) s.L
        have hLc := addsK_ok (q := s.last + 1) (l.take i) hch
        have htl : (l.take i).length ≤ l.length := by rw [List.length_take]; omega
        generalize addsK s.L (s.last + 1) (l.take i) = L at *
        have hen : keepE [(49, vI .i64 (i + 1)), (0, vC (.ptr 0 0)), (47, vCl l), (48, vI .i64 l.length)] [0, 47, 48, 49] = some [(0, vC (.ptr 0 0)), (47, vCl l), (48, vI .i64 l.length), (49, vI .i64 (i + 1))] := rfl
        refine Tri.seq (Tri.go [] rfl trivial (Tri.seq (Tri.go [.b 50 true] rfl ⟨decide_eq_true (by omega), trivial⟩ ?_)))
        refine Tri.seq (Tri.block (Tri.seq (Tri.tree (.a (.at [.int .i64 c.1, .int .i64 c.2.1, .int .u16 c.2.2]) .nil) rfl ⟨⟨by omega, rfl, hg⟩, by simp, ?_⟩)))
        by_cases hk : idxK L (keyC c) < L.length
        · refine Tri.carve 1 _ (carve1 (s := ⟨s.last + 1, s.n + l.length, s.most, L⟩) (k := keyC c) hk [] 1 rfl) ?_
          have hc : (chK L (keyC c)) = L[idxK L (keyC c)].2 := by unfold chK; rw [List.getElem?_eq_getElem hk]
          have hl2 := hLc _ (List.getElem_mem hk)
          rw [← hc] at hl2
          have hadd : addK L (keyC c) (s.last + 1, c.2.2) = L.modify (idxK L (keyC c)) fun e => (e.1, chK L (keyC c) ++ [(s.last + 1, c.2.2)]) := by
            unfold addK
            rw [if_pos hk]
            apply List.ext_getElem?
            intro j
            simp only [List.getElem?_modify]
            by_cases hj : idxK L (keyC c) = j
            · subst hj; simp [hk, hc]
            · simp [hj]
          have hpos : 0 < (chK L (keyC c)).length + 1 := by omega
          refine Tri.tree .nil rfl ⟨⟨⟨rfl, by simp⟩, trivial⟩, ⟨cmOf_at _ _, by simpa using hk, rfl⟩, ⟨.inr rfl, rfl, by simp, by simp, by show ((chK L (keyC c)).length + 1) * 16 ≤ _; omega, by show (chK L (keyC c)).length + 1 ≤ _; omega⟩, ⟨by rw [cmOf_st hk, cmOf_idx hk], by simpa using hk⟩, ?_⟩
          refine Tri.back 1 4 ⟨_, _, _, _, _, rfl, rfl, by simp, by simp, by simpa using hk, rfl⟩ ?_
          have hrw : rwV (chK L (keyC c)) ++ List.take 1 ((List.replicate 1 [D.int .u64 0, D.int .u16 0]).set 0 [D.int .u64 (s.last + 1), D.int .u16 c.2.2]) = rwV (chK L (keyC c) ++ [(s.last + 1, c.2.2)]) := by simp [rwV]
          have hput : (cmOf L).put (idxK L (keyC c)) (.i 2 (rwV (chK L (keyC c)) ++ List.take 1 ((List.replicate 1 [D.int .u64 0, D.int .u16 0]).set 0 [D.int .u64 (s.last + 1), D.int .u16 c.2.2]))) = cmOf (addsK s.L (s.last + 1) (l.take (i + 1))) := by
            rw [hrw, cmOf_put hk, hsx, hadd]
          simp only [hput]
          refine Tri.let [0, 1] [] [0, 47, 48, 49] rfl trivial ?_
          exact Tri.go [] rfl ⟨by omega, trivial⟩ (again (l.length - (i + 1)) (by omega) ⟨i + 1, rfl, by omega, rfl, keep_of rfl (by simp)⟩)
        · have hg0 : (cmOf L).get (c.1, c.2.1) = none := by
            unfold Cm.get
            rw [cmOf_at, List.getElem?_eq_none (by have : idxK L (keyC c) = idxK L (c.1, c.2.1) := rfl; simp; omega)]
            rfl
          have hadd : addK L (keyC c) (s.last + 1, c.2.2) = L ++ [(keyC c, [(s.last + 1, c.2.2)])] := if_neg hk
          refine Tri.tree (.a (.mp none) .nil) rfl ⟨⟨⟨rfl, by simp⟩, trivial⟩, ⟨hg0, rfl⟩, ⟨.inr rfl, by simp, by simp, by simp⟩, ?_, ?_⟩
          · have := cmNew_idx (L := L) (k := (c.1, c.2.1)) (v := .o [.nil])
            show ((cmOf L).new (c.1, c.2.1) (.o [.nil])).idx ((cmOf L).ck : Int) < _
            have hck : (cmOf L).ck = L.length := rfl
            rw [hck, this]
            simp [Cm.new]
          refine Tri.back 1 3 ⟨_, _, _, _, _, rfl, rfl, by simp, by simp, ?_, rfl⟩ ?_
          · have := cmNew_idx (L := L) (k := (c.1, c.2.1)) (v := .o [.nil])
            have hck : (cmOf L).ck = L.length := rfl
            rw [hck, this]
            simp [Cm.new]
          have hrw : List.take 1 ((List.replicate 1 [D.int .u64 0, D.int .u16 0]).set 0 [D.int .u64 (s.last + 1), D.int .u16 c.2.2]) = rwV [(s.last + 1, c.2.2)] := by simp [rwV]
          have hput : ((cmOf L).new (c.1, c.2.1) (.o [.nil])).put (((cmOf L).new (c.1, c.2.1) (.o [.nil])).idx ((cmOf L).ck : Int)) (.i 2 (List.take 1 ((List.replicate 1 [D.int .u64 0, D.int .u16 0]).set 0 [D.int .u64 (s.last + 1), D.int .u16 c.2.2]))) = cmOf (addsK s.L (s.last + 1) (l.take (i + 1))) := by
            have hck : (cmOf L).ck = L.length := rfl
            rw [hck, cmNew_idx, hrw, cmNew_put, hsx, hadd]
            rfl
          simp only [hput]
          refine Tri.let [0, 1] [] [0, 47, 48, 49] rfl trivial ?_
          exact Tri.go [] rfl ⟨by omega, trivial⟩ (again (l.length - (i + 1)) (by omega) ⟨i + 1, rfl, by omega, rfl, keep_of rfl (by simp)⟩)
      · have : i = l.length := by omega
        subst this
        rw [List.take_length]
        exact Tri.seq (Tri.go [] rfl trivial (Tri.seq (Tri.go [.b 50 false] rfl ⟨decide_eq_false (by omega), trivial⟩ (And.intro rfl (keep_of rfl rfl)))))
    rintro ρ hl' ⟨rfl, hkk⟩
    refine Tri.keep _ hkk ?_
    exact Tri.treeR (.a (.call [0, 1] [] .u []) .nil) rfl ⟨trivial, .refl _, leP_refl _⟩
end Go.Proofs.YthddlkhfkncgpaaGreat

set_option maxRecDepth 100000
set_option maxHeartbeats 1000000
set_option linter.unusedVariables false
set_option linter.unusedSimpArgs false
namespace Go.Proofs.YthddlkhfkncgpaaGreat
open Go.RowKit

theorem Tri.scopeR {P : Program} {N n0 m : Nat} {ρ : Env} {hl : List Ob} {x : AC} {res : List AR} {r : V} {hs : List Ob} (h : Tri P N n0 x ρ hl (RetQ res m r hs)) : Tri P N n0 (.scope x) ρ hl (RetQ res m r hs) :=
  Tri.scope (Tri.mono h fun ex ρ hl hq => by
    cases ex with
    | goto l => exact absurd hq.1 (by simp)
    | _ => exact hq)
def firstA (L : Chs) (q t : Int) : Nat → Int → Option Key
  | 0, _ => none
  | f + 1, a => if q < newL (chK L (t, a)) then some (t, a) else firstA L q t f (a + 1)
def clashS (L : Chs) (q : Int) : List Spn → Option Key
  | [] => none
  | s :: l => match firstA L q s.1 (s.2.2 - s.2.1).toNat s.2.1 with
    | some k => some k
    | none => clashS L q l
theorem clashS_cons (L : Chs) (q : Int) (s : Spn) (l : List Spn) : clashS L q (s :: l) = match firstA L q s.1 (s.2.2 - s.2.1).toNat s.2.1 with | some k => some k | none => clashS L q l := rfl
abbrev kOr (k : Option Key) : Key := k.getD (0, 0)
abbrev bxK (k : Key) : Ob := .box [.t (.int .i64 k.1), .t (.int .i64 k.2)]
abbrev clV (k : Option Key) : V := .tup [.agg [.t (.int .i64 (kOr k).1), .t (.int .i64 (kOr k).2)], .c (.t (.bool k.isSome))]
theorem clash_ok {s : St} (hs : StOk s) {R : List Spn} (hl : R.length ≤ 1000000000) (hr : ∀ x ∈ R, -1000000000 ≤ x.2.1 ∧ x.2.2 ≤ 1000000000) {q : Int} :
    FnOk Tryz.prog 281 [vC (.ptr 0 0), vSp R, vI .u64 q] [stB s 1, stM s] (clV (clashS s.L q R)) [stB s 1, stM s] := by
  refine FnOk.start t281 rfl rfl rfl ?_
  refine Tri.seq (Tri.go [] rfl trivial ?_)
  refine Tri.scopeR ?_
  refine Tri.seq (Tri.go [] rfl trivial ?_)
  refine Tri.seq (Tri.go [] rfl trivial ?_)
  refine Tri.seq (Tri.skip ?_)
  refine Tri.mid (fun ρ hl => hl = [stB s 1, stM s, bxK (0, 0), bxK (kOr (clashS s.L q R))] ∧ keepE ρ [6, 8, 9] = some [(6, vC (.ptr 2 0)), (8, vC (.ptr 3 0)), (9, vB (clashS s.L q R).isSome)]) ?_ ?_
  · refine Tri.seq (Tri.go [] rfl trivial ?_)
    refine Tri.block ?_
    refine Tri.lp (fun z ρ hl => ∃ i, z = R.length - i ∧ i ≤ R.length ∧ clashS s.L q R = clashS s.L q (R.drop i) ∧ hl = [stB s 1, stM s, bxK (0, 0), bxK (0, 0)] ∧
      keepE ρ [0, 2, 6, 8, 9, 14, 15, 16] = some [(0, vC (.ptr 0 0)), (2, vI .u64 q), (6, vC (.ptr 2 0)), (8, vC (.ptr 3 0)), (9, vB false), (14, vSp R), (15, vI .i64 R.length), (16, vI .i64 i)]) R.length ⟨0, by omega, by omega, rfl, rfl, keep_of rfl rfl⟩ ?_
    rintro z ρ hl' ⟨i, rfl, hi, he, rfl, hkk⟩
    refine Tri.keep _ hkk ?_
    by_cases h : i < R.length
    · have hg := rwS_get h
      have hx := hr _ (List.getElem_mem h)
      rw [List.drop_eq_getElem_cons h, clashS_cons] at he
      generalize R[i] = x at *
      obtain ⟨t, fr, to⟩ := x
      simp only at hg hx he
      refine Tri.seq (Tri.go [] rfl trivial (Tri.seq (Tri.go [.b 17 true] rfl ⟨decide_eq_true (by omega), trivial⟩ ?_)))
      refine Tri.mid (fun ρ hl => firstA s.L q t (to - fr).toNat fr = none ∧ hl = [stB s 1, stM s, bxK (0, 0), bxK (0, 0)] ∧ keepE ρ [0, 2, 6, 8, 9, 14, 15, 16] = some [(0, vC (.ptr 0 0)), (2, vI .u64 q), (6, vC (.ptr 2 0)), (8, vC (.ptr 3 0)), (9, vB false), (14, vSp R), (15, vI .i64 R.length), (16, vI .i64 i)]) ?_ ?_
      · refine Tri.block (Tri.seq (Tri.tree (.a (.at [.int .i64 t, .int .i64 fr, .int .i64 to]) .nil) rfl ⟨⟨by omega, rfl, hg⟩, by simp, ?_⟩))
        refine Tri.seq (Tri.go [] rfl trivial ?_)
        refine Tri.block ?_
        refine Tri.lp (fun z ρ hl => ∃ a : Int, z = (to - a).toNat ∧ fr ≤ a ∧ firstA s.L q t (to - fr).toNat fr = firstA s.L q t (to - a).toNat a ∧ hl = [stB s 1, stM s, bxK (0, 0), bxK (0, 0), .box [.t (.int .i64 t), .t (.int .i64 fr), .t (.int .i64 to)]] ∧
          keepE ρ [0, 2, 6, 8, 9, 11, 12, 14, 15, 16] = some [(0, vC (.ptr 0 0)), (2, vI .u64 q), (6, vC (.ptr 2 0)), (8, vC (.ptr 3 0)), (9, vB false), (11, vC (.ptr 4 0)), (12, vI .i64 a), (14, vSp R), (15, vI .i64 R.length), (16, vI .i64 i)]) (to - fr).toNat ⟨fr, rfl, by omega, rfl, rfl, keep_of rfl rfl⟩ ?_
        rintro z ρ hl' ⟨a, rfl, ha, hfa, rfl, hkk⟩
        refine Tri.keep _ hkk ?_
        by_cases h2 : a < to
        · have hf1 : (to - a).toNat = (to - (a + 1)).toNat + 1 := by omega
          rw [hf1, firstA] at hfa
          have hnw := sNewest_ok hs (t := t) (a := a)
          refine Tri.seq (Tri.go [.b 25 true] rfl ⟨decide_eq_true h2, trivial⟩ ?_)
          refine Tri.seq (Tri.block (Tri.seq (Tri.tree .nil rfl ?_)))
          by_cases h3 : newL (chK s.L (t, a)) ≤ q
          · rw [if_neg (by omega)] at hfa
            refine Tri.seq (Tri.tree (.o [0, 1] [] hnw (.a (.b 36 true) .nil)) rfl ⟨trivial, by simp [leVs, leP, leE, leL, leC], rfl, decide_eq_true h3, ?_⟩)
            refine Tri.let [0, 1, 2, 3, 4] [] [0, 2, 6, 8, 9, 11, 12, 14, 15, 16] rfl trivial ?_
            exact Tri.go [] rfl ⟨by omega, trivial⟩ (again (to - (a + 1)).toNat (by omega) ⟨a + 1, rfl, by omega, hfa, rfl, keep_of rfl (by simp)⟩)
          · rw [if_pos (by omega)] at hfa
            rw [hfa] at he
            refine Tri.seq (Tri.tree (.o [0, 1] [] hnw (.a (.b 36 false) .nil)) rfl ⟨trivial, by simp [leVs, leP, leE, leL, leC], rfl, decide_eq_false h3, ?_⟩)
            simp only at he
            rw [he]
            refine Tri.seq (Tri.go [] rfl trivial ?_)
            refine Tri.let [0, 1, 2, 3] [] [6, 8, 9] rfl trivial ?_
            exact Tri.exit (And.intro rfl (keep_of rfl rfl))
        · have hz : (to - a).toNat = 0 := by omega
          rw [hz, firstA] at hfa
          refine Tri.seq (Tri.seq (Tri.go [] rfl trivial ?_))
          refine Tri.let [0, 1, 2, 3] [] [0, 2, 6, 8, 9, 14, 15, 16, 25] rfl trivial ?_
          exact Tri.go [.b 25 false] rfl ⟨decide_eq_false h2, trivial⟩ (And.intro hfa (And.intro rfl (keep_of rfl rfl)))
      rintro ρ hl' ⟨hn, rfl, hkk⟩
      refine Tri.keep _ hkk ?_
      rw [hn] at he
      exact Tri.go [] rfl ⟨by omega, trivial⟩ (again (R.length - (i + 1)) (by omega) ⟨i + 1, rfl, by omega, he, rfl, keep_of rfl (by simp)⟩)
    · have : i = R.length := by omega
      subst this
      rw [List.drop_length] at he
      have he : clashS s.L q R = none := he
      rw [he]
      exact Tri.seq (Tri.go [] rfl trivial (Tri.seq (Tri.go [.b 17 false] rfl ⟨decide_eq_false (by omega), trivial⟩ (And.intro rfl (keep_of rfl rfl)))))
  rintro ρ hl' ⟨rfl, hkk⟩
  refine Tri.keep _ hkk ?_
  refine Tri.treeR (.a (.call [0, 1] [] .u []) .nil) rfl ?_
  simp [leP, leE, leEs, leL, leC]
  exact .refl _
theorem fresh_ok {s : St} (hs : StOk s) {R : List Spn} (hl : R.length ≤ 1000000000) (hr : ∀ x ∈ R, -1000000000 ≤ x.2.1 ∧ x.2.2 ≤ 1000000000) {q : Int} :
    FnOk Tryz.prog 258 [vC (.ptr 0 0), vSp R, vI .u64 q] [stB s 1, stM s] (vB (!(clashS s.L q R).isSome)) [stB s 1, stM s] := by
  have hc := clash_ok hs hl hr (q := q)
  refine FnOk.tree t258 (.o [0, 1] [] hc (.a (.call [0, 1] [] .u []) .nil)) rfl rfl rfl rfl ?_
  refine ⟨trivial, by simp [leVs, leP, leE, leL, leC], rfl, ?_⟩
  simp [leP, leE, leEs, leL, leC]
  exact .refl _
end Go.Proofs.YthddlkhfkncgpaaGreat
