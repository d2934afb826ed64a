/-
  The store: New, Last, Versions, Read, Newest.
-/
import Derived.Test.YtpnbncdclgmegaaT4
set_option maxRecDepth 100000
set_option maxHeartbeats 1000000
set_option linter.unusedVariables false
set_option linter.unusedSimpArgs false
namespace Go.Proofs.Ytpnbncdclgmegaa
open Go.RowKit

abbrev Key := Int × Int
/-- Chains by their keys. -/
abbrev Chs := List (Key × Ch)
def cmE (i : Nat) (e : Key × Ch) : Nat × Key × MV := (i, e.1, .i 2 (rwV e.2))
def cmOf (L : Chs) : Cm := ⟨L.length, (List.range L.length).zipWith cmE L⟩
@[simp] theorem cmOf_len (L : Chs) : (cmOf L).es.length = L.length := by simp [cmOf]
theorem cmOf_get {L : Chs} {i : Nat} (h : i < L.length) : (cmOf L).es[i]? = some (i, L[i].1, .i 2 (rwV L[i].2)) := by
  simp [cmOf, cmE, h]
def idxK (L : Chs) (k : Key) : Nat := L.findIdx fun e => e.1 == k
theorem cmOf_at (L : Chs) (k : Key) : (cmOf L).at k = idxK L k := by
  unfold Cm.at idxK cmOf
  have : ∀ (L : Chs) (R : List Nat), R.length = L.length → List.findIdx (fun e : Nat × Key × MV => e.2.1 == k) (R.zipWith cmE L) = List.findIdx (fun e => e.1 == k) L := by
    intro L
    induction L with
    | nil => intro R h; simp
    | cons e L ih =>
      intro R h
      cases R with
      | nil => simp at h
      | cons r R => simp [List.findIdx_cons, cmE, ih R (by simpa using h)]
  exact this L _ (by simp)
theorem idxK_le (L : Chs) (k : Key) : idxK L k ≤ L.length := List.findIdx_le_length
theorem idxK_key {L : Chs} {k : Key} (h : idxK L k < L.length) : L[idxK L k].1 = k := by
  have h : (L[idxK L k].1 == k) = true := List.findIdx_getElem (w := h)
  simpa using h
def chK (L : Chs) (k : Key) : Ch := match L[idxK L k]? with
  | some e => e.2
  | none => []
/-- The store: last number, how many versions, at most so many; chains. -/
structure St where
  last : Int
  n : Int
  most : Int
  L : Chs
abbrev stB (s : St) (m : Nat) : Ob := .box [.t (.int .u64 s.last), .t (.int .i64 s.n), .t (.int .i64 s.most), .mp m]
abbrev stM (s : St) : Ob := .cm false (cmOf s.L) none
structure StOk (s : St) : Prop where
  len : s.L.length ≤ 1000000000
  ch : ∀ e ∈ s.L, 0 < e.2.length ∧ e.2.length ≤ 1000000000
theorem sLast_ok {s : St} : FnOk Try.prog 21 [vC (.ptr 0 0)] [stB s 1, stM s] (vI .u64 s.last) [stB s 1, stM s] := by
  refine FnOk.tree t21 (.a (.call [0, 1] [] .u []) .nil) rfl rfl rfl rfl ?_
  exact ⟨trivial, .refl _, leP_refl _⟩
theorem sVers_ok {s : St} : FnOk Try.prog 29 [vC (.ptr 0 0)] [stB s 1, stM s] (vI .i64 s.n) [stB s 1, stM s] := by
  refine FnOk.tree t29 (.a (.call [0, 1] [] .u []) .nil) rfl rfl rfl rfl ?_
  exact ⟨trivial, .refl _, leP_refl _⟩
def newSt (a m : Int) : St := ⟨a, 0, min (max m 0) 1048576, []⟩
theorem sNew_ok {a m : Int} : FnOk Try.prog 12 [vI .u64 a, vI .i64 m] [] (vC (.ptr 0 0)) [stB (newSt a m) 1, stM (newSt a m)] := by
  refine FnOk.tree t12 (.a (.call [1, 0] [] .u []) .nil) rfl rfl rfl rfl ?_
  simp [leVs, leP, leE, leC, newSt]
  have e : (if 1048576 < (if m < 0 then 0 else m) then 1048576 else if m < 0 then 0 else m) = min (max m 0) 1048576 := by split <;> split <;> omega
  rw [e]
  exact .of rfl
/-- A chain's list taken out: where it stands. -/
theorem carve1 {s : St} {k : Key} (h : idxK s.L k < s.L.length) (pre : List Ob) {o : List Ob} (mid : Nat) (hm : hx o mid = stM s) : CarveTo mid (idxK s.L k) o (o.set mid (.cm false (cmOf s.L) (some (idxK s.L k, o.length, (chK s.L k).length))) ++ [.arr 2 (rwV (chK s.L k))]) := by
  refine ⟨_, _, _, _, _, hm, cmOf_get h, ?_⟩
  have : chK s.L k = s.L[idxK s.L k].2 := by unfold chK; rw [List.getElem?_eq_getElem h]
  rw [this, rwV_len]
theorem put_self {L : Chs} {j : Nat} (h : j < L.length) : (cmOf L).put j (.i 2 (rwV L[j].2)) = cmOf L := by
  have hg := cmOf_get h
  show Cm.mk _ _ = Cm.mk (cmOf L).ck (cmOf L).es
  congr 1
  apply List.ext_getElem?
  intro i
  rw [List.getElem?_modify]
  by_cases hij : j = i
  · subst hij
    rw [hg]
    simp
  · simp [hij]
theorem sRead_ok {s : St} (hs : StOk s) {t a q : Int} : FnOk Try.prog 26 [vC (.ptr 0 0), vK t a, vI .u64 q] [stB s 1, stM s] (vI .u16 (atL (chK s.L (t, a)) q)) [stB s 1, stM s] := by
  refine FnOk.start t26 rfl rfl rfl ?_
  refine Tri.seq (Tri.go [] rfl trivial ?_)
  by_cases h : idxK s.L (t, a) < s.L.length
  · refine Tri.carve 1 _ (carve1 (k := (t, a)) h [] 1 rfl) ?_
    have hc : (chK s.L (t, a)) = s.L[idxK s.L (t, a)].2 := by unfold chK; rw [List.getElem?_eq_getElem h]
    have hl := hs.ch _ (List.getElem_mem h)
    rw [← hc] at hl
    have hat := chAt_ok (l := chK s.L (t, a)) hl.2 (s := q)
    refine Tri.seq (Tri.tree (.f [3] hat .nil) rfl ?_)
    refine ⟨⟨cmOf_at _ _, by simpa using h, rfl⟩, by simp, by simp [leVs, leP, leE, leL, leC], ?_⟩
    refine Tri.back 1 3 ⟨_, _, _, _, _, rfl, rfl, by simp, hl.1, by simpa using h, rfl⟩ ?_
    rw [hc, put_self h]
    exact Tri.treeR (.a (.call [0, 1] [] .u []) .nil) rfl ⟨trivial, .refl _, leP_refl _⟩
  · have hc : chK s.L (t, a) = [] := by unfold chK; rw [List.getElem?_eq_none (by omega)]
    have hat := chAt_ok (l := chK s.L (t, a)) (by rw [hc]; simp) (s := q)
    rw [hc] at hat ⊢
    have hg : (cmOf s.L).get (t, a) = none := by unfold Cm.get; rw [cmOf_at, List.getElem?_eq_none (by simp; omega)]; rfl
    refine Tri.seq (Tri.tree (.a (.mp none) (.f [] hat .nil)) rfl ?_)
    refine ⟨hg, trivial, by simp [leVs, leP, leE, leL, leC, rwV], ?_⟩
    exact Tri.treeR (.a (.call [0, 1] [] .u []) .nil) rfl ⟨trivial, .refl _, leP_refl _⟩
theorem sNewest_ok {s : St} (hs : StOk s) {t a : Int} : FnOk Try.prog 92 [vC (.ptr 0 0), vK t a] [stB s 1, stM s] (vI .u64 (newL (chK s.L (t, a)))) [stB s 1, stM s] := by
  refine FnOk.start t92 rfl rfl rfl ?_
  refine Tri.seq (Tri.go [] rfl trivial ?_)
  by_cases h : idxK s.L (t, a) < s.L.length
  · refine Tri.carve 1 _ (carve1 (k := (t, a)) h [] 1 rfl) ?_
    have hc : (chK s.L (t, a)) = s.L[idxK s.L (t, a)].2 := by unfold chK; rw [List.getElem?_eq_getElem h]
    have hl := hs.ch _ (List.getElem_mem h)
    rw [← hc] at hl
    have hat := newest_ok (l := chK s.L (t, a)) hl.2
    refine Tri.seq (Tri.tree (.f [3] hat .nil) rfl ?_)
    refine ⟨⟨cmOf_at _ _, by simpa using h, rfl⟩, by simp, by simp [leVs, leP, leE, leL, leC], ?_⟩
    refine Tri.back 1 3 ⟨_, _, _, _, _, rfl, rfl, by simp, hl.1, by simpa using h, rfl⟩ ?_
    rw [hc, put_self h]
    exact Tri.treeR (.a (.call [0, 1] [] .u []) .nil) rfl ⟨trivial, .refl _, leP_refl _⟩
  · have hc : chK s.L (t, a) = [] := by unfold chK; rw [List.getElem?_eq_none (by omega)]
    have hat := newest_ok (l := chK s.L (t, a)) (by rw [hc]; simp)
    rw [hc] at hat ⊢
    have hg : (cmOf s.L).get (t, a) = none := by unfold Cm.get; rw [cmOf_at, List.getElem?_eq_none (by simp; omega)]; rfl
    refine Tri.seq (Tri.tree (.a (.mp none) (.f [] hat .nil)) rfl ?_)
    refine ⟨hg, trivial, by simp [leVs, leP, leE, leL, leC, rwV], ?_⟩
    exact Tri.treeR (.a (.call [0, 1] [] .u []) .nil) rfl ⟨trivial, .refl _, leP_refl _⟩
end Go.Proofs.Ytpnbncdclgmegaa
