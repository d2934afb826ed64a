/-
  Serving a request: who the device is; commands and the window; data.
  Serving a request: Do; what stands behind it.
-/
import Derived.Test.YthddlkhfkncgpaaGreatE5
set_option maxRecDepth 100000
set_option maxHeartbeats 2000000
set_option linter.unusedVariables false
set_option linter.unusedSimpArgs false
namespace Go.Proofs.YthddlkhfkncgpaaGreat
open Go.RowKit

abbrev failT (fn e : Int) : Tell := { fn := fn, exc := e }
def devT (c : Cf) (a : Ask) : Tell := if (answerL c.objs a.code a.obj).2 = 0 then (answerL c.objs a.code a.obj).1 else failT a.fn (answerL c.objs a.code a.obj).2
theorem device_ok {c : Cf} (hc : c.Ok) {a : Ask} : FnOk Tryz.prog 63 [c.v, a.v] [] (devT c a).v [] := by
  have h := answer_ok (l := c.objs) (by have := hc.objs; omega) (c := a.code) (x := a.obj) hc.ob
  unfold devT
  generalize answerL c.objs a.code a.obj = r at *
  obtain ⟨t, e⟩ := r
  by_cases he : e = 0
  · subst he
    rw [if_pos rfl]
    refine FnOk.tree t63 (.f [] h (.a (.b 18 false) .nil)) rfl rfl rfl rfl ?_
    repeat' apply And.intro
    all_goals first | trivial | rfl | exact .refl _ | exact leP_refl _ | (simp [leVs, leP, leE, leEs, leL, leC]; done)
  · rw [if_neg he]
    have hf := fail_ok a.fn e
    refine FnOk.tree t63 (.f [] h (.a (.b 18 true) (.f [] hf .nil))) rfl rfl rfl rfl ?_
    repeat' apply And.intro
    all_goals first | trivial | rfl | exact .refl _ | exact leP_refl _ | (simp [leVs, leP, leE, leEs, leL, leC]; done) | simpa using he
theorem cmdB_ok : FnOk Tryz.prog 133 [vI .i64 1] [] (vC (.fn 175 [])) [] := FnOk.tree t133 .nil rfl rfl rfl rfl (by simp [leP, leE, leC])
theorem cmdC_ok : FnOk Tryz.prog 133 [vI .i64 2] [] (vC (.fn 176 [])) [] := FnOk.tree t133 .nil rfl rfl rfl rfl (by simp [leP, leE, leC])
theorem cmdA_ok : FnOk Tryz.prog 133 [vI .i64 3] [] (vC (.fn 177 [])) [] := FnOk.tree t133 .nil rfl rfl rfl rfl (by simp [leP, leE, leC])
theorem cmdN_ok {v : Int} (h1 : v ≠ 1) (h2 : v ≠ 2) (h3 : v ≠ 3) : FnOk Tryz.prog 133 [vI .i64 v] [] (vC .nilf) [] :=
  FnOk.tree t133 (.a (.b 4 false) (.a (.b 6 false) (.a (.b 8 false) .nil))) rfl rfl rfl rfl ⟨by simpa using h1, by simpa using h2, by simpa using h3, by simp [leP, leE, leC]⟩
/-- What a command does: the error. -/
def cmdR (x : Ss) (k v : Int) : Int × Ss := if v = 1 then beginR x k else if v = 2 then scomR x k else sabR x k
def ctlR (x : Ss) (w k : Int) (a : Ask) : Tell × Ss :=
  if a.fn = 3 then (toldT 3 (readW (stG x.A k).st (stG x.A k).re x.t (stG x.A k).q (a.at_ - w) (a.at_ - w + a.n)), x)
  else if (orderR a w).2 = false then (failT a.fn 2, x)
  else if ¬ ((orderR a w).1 = 1 ∨ (orderR a w).1 = 2 ∨ (orderR a w).1 = 3) then (failT a.fn 3, x)
  else if (cmdR x k (orderR a w).1).1 = 0 then (echoT a, (cmdR x k (orderR a w).1).2)
  else if (cmdR x k (orderR a w).1).1 = 4 ∧ (orderR a w).1 = 1 then (failT a.fn 6, (cmdR x k (orderR a w).1).2)
  else (failT a.fn 4, (cmdR x k (orderR a w).1).2)
abbrev s8 : List Nat := [0, 1, 2, 3, 4, 5, 6, 7]
theorem control_ok {x : Ss} {w k : Int} {a : Ask} (hf : a.Fit) (hr : a.right = true) (hw : 0 ≤ w ∧ w ≤ 1000000) (hx : SsGo x k) (hq : 0 ≤ (stG x.A k).q) : FnOk Tryz.prog 72 [vC (.ptr 0 0), vI .i64 w, vI .i64 k, a.v] (ssO x) (ctlR x w k a).1.v (ssO (ctlR x w k a).2) := by
  have ho := order_ok' hf (w := w)
  unfold ctlR
  by_cases h3 : a.fn = 3
  · rw [if_pos h3]
    have hs := state_ok (x := x) (c := k)
    have hrd := ctrlRead_ok (a := (stG x.A k).st) (b := (stG x.A k).re) (c := x.t) (fr := a.at_ - w) (to := a.at_ - w + a.n) hq
    have hrl : (readW (stG x.A k).st (stG x.A k).re x.t (stG x.A k).q (a.at_ - w) (a.at_ - w + a.n)).length ≤ 8 := by
      unfold readW
      split
      · simp
      · have := regsW_len (stG x.A k).st (stG x.A k).re x.t (stG x.A k).q
        simp; omega
    have ht := told_ok (fn := 3) (ws := readW (stG x.A k).st (stG x.A k).re x.t (stG x.A k).q (a.at_ - w) (a.at_ - w + a.n)) (by omega)
    have hb : (0 ≤ a.at_ ∧ a.at_ ≤ 65535) ∧ 1 ≤ a.n ∧ a.n ≤ 125 := by
      obtain ⟨fn, at_, n, vl, an, og, bs, ws, ra, rn, cd, ob⟩ := a
      simp only at h3
      subst h3
      simp [Ask.right, Ask.same, Ask.only, Ask.rest, known, countsB, kMost, placeB] at hr
      simp only
      omega
    refine FnOk.tree t72 (.a (.b 15 true) (.o s8 [] hs (.f [] hrd (.f [] ht (.a (.call s8 [] .u []) .nil))))) rfl rfl rfl rfl ?_
    repeat' (with_reducible apply And.intro)
    all_goals first | trivial | rfl | exact .refl _ | exact leP_refl _ | (simp [leVs, leP, leE, leEs, leL, leC, h3]; done) | omega
  rw [if_neg h3]
  generalize hod : orderR a w = od at *
  obtain ⟨v, is⟩ := od
  have hf2 := fail_ok a.fn 2
  have hf3 := fail_ok a.fn 3
  have hf4 := fail_ok a.fn 4
  have hf6 := fail_ok a.fn 6
  have he := echo_ok hf
  cases is with
  | false =>
    rw [if_pos rfl]
    refine FnOk.tree t72 (.a (.b 15 false) (.f [] ho (.f [] hf2 (.a (.call s8 [] .u []) .nil)))) rfl rfl rfl rfl ?_
    repeat' (with_reducible apply And.intro)
    all_goals first | trivial | rfl | exact .refl _ | exact leP_refl _ | (simp [leVs, leP, leE, leEs, leL, leC]; done) | simpa using h3
  | true =>
  rw [if_neg (by simp)]
  simp only
  by_cases hv : v = 1 ∨ v = 2 ∨ v = 3
  · rw [if_neg (not_not_intro hv)]
    have hcmd : ∃ f, FnOk Tryz.prog 133 [vI .i64 v] [] (vC (.fn f [])) [] ∧ FnOk Tryz.prog f [vC (.ptr 0 0), vI .i64 k] (ssO x) (vI .i64 (cmdR x k v).1) (ssO (cmdR x k v).2) := by
      rcases hv with rfl | rfl | rfl
      · exact ⟨_, cmdB_ok, ssBegin_ok⟩
      · exact ⟨_, cmdC_ok, ssCommit_ok hx⟩
      · exact ⟨_, cmdA_ok, ssAbort_ok⟩
    obtain ⟨f, hm, hd⟩ := hcmd
    generalize cmdR x k v = r at *
    obtain ⟨e, y⟩ := r
    simp only
    by_cases e0 : e = 0
    · subst e0
      rw [if_pos rfl]
      refine FnOk.tree t72 (.a (.b 15 false) (.f [] ho (.f [] hm (.a (.call s8 [] (vI .i64 0) (ssO y)) (.f [] he (.a (.call s8 [] .u []) .nil)))))) rfl rfl rfl rfl ?_
      repeat' (with_reducible apply And.intro)
      all_goals first | trivial | rfl | exact .refl _ | exact leP_refl _ | (simp [leVs, leP, leE, leEs, leL, leC]; done) | simpa using h3 | exact hd
    rw [if_neg e0]
    by_cases e4 : e = 4
    · subst e4
      by_cases v1 : v = 1
      · rw [if_pos ⟨rfl, v1⟩]
        refine FnOk.tree t72 (.a (.b 15 false) (.f [] ho (.f [] hm (.a (.call s8 [] (vI .i64 4) (ssO y)) (.a (.b 61 true) (.f [] hf6 (.a (.call s8 [] .u []) .nil))))))) rfl rfl rfl rfl ?_
        repeat' (with_reducible apply And.intro)
        all_goals first | trivial | rfl | exact .refl _ | exact leP_refl _ | (simp [leVs, leP, leE, leEs, leL, leC]; done) | simpa using h3 | exact hd | simpa using v1
      · rw [if_neg (by simp [v1])]
        refine FnOk.tree t72 (.a (.b 15 false) (.f [] ho (.f [] hm (.a (.call s8 [] (vI .i64 4) (ssO y)) (.a (.b 61 false) (.f [] hf4 (.a (.call s8 [] .u []) .nil))))))) rfl rfl rfl rfl ?_
        repeat' (with_reducible apply And.intro)
        all_goals first | trivial | rfl | exact .refl _ | exact leP_refl _ | (simp [leVs, leP, leE, leEs, leL, leC]; done) | simpa using h3 | exact hd | simpa using v1
    · rw [if_neg (by simp [e4])]
      refine FnOk.tree t72 (.a (.b 15 false) (.f [] ho (.f [] hm (.a (.call s8 [] (vI .i64 e) (ssO y)) (.a (.b 56 false) (.a (.b 64 false) (.f [] hf4 (.a (.call s8 [] .u []) .nil)))))))) rfl rfl rfl rfl ?_
      repeat' (with_reducible apply And.intro)
      all_goals first | trivial | rfl | exact .refl _ | exact leP_refl _ | (simp [leVs, leP, leE, leEs, leL, leC]; done) | simpa using h3 | exact hd | simpa using e0 | simpa using e4
  · rw [if_pos hv]
    have hm := cmdN_ok (v := v) (by omega) (by omega) (by omega)
    refine FnOk.tree t72 (.a (.b 15 false) (.f [] ho (.f [] hm (.f [] hf3 (.a (.call s8 [] .u []) .nil))))) rfl rfl rfl rfl ?_
    repeat' (with_reducible apply And.intro)
    all_goals first | trivial | rfl | exact .refl _ | exact leP_refl _ | (simp [leVs, leP, leE, leEs, leL, leC]; done) | simpa using h3
/-- The last of what is done with data: what is read. -/
def dataE (x : Ss) (k : Int) (a : Ask) (rd : List Spn) : Tell × Ss := match rd with
  | [] => (echoT a, x)
  | r :: _ => if (sreadR x k r).2.1 = 0 then (toldT a.fn (sreadR x k r).1, (sreadR x k r).2.2) else (failT a.fn 4, (sreadR x k r).2.2)
def dataW (x : Ss) (k : Int) (a : Ask) (was : Int) (rd wr : List Spn) : Tell × Ss := match wr with
  | [] => dataE x k a rd
  | _ :: _ => if (swriteR x k (cellsT a was)).1 = 0 then dataE (swriteR x k (cellsT a was)).2 k a rd else (failT a.fn 4, (swriteR x k (cellsT a was)).2)
def dataR (x : Ss) (k : Int) (a : Ask) (rd wr : List Spn) : Tell × Ss :=
  if a.fn = 22 then match wr with
    | [] => (failT a.fn 4, x)
    | s :: _ => if (sreadR x k s).2.1 = 0 then dataW (sreadR x k s).2.2 k a ((sreadR x k s).1.getD 0 0) rd wr else (failT a.fn 4, (sreadR x k s).2.2)
  else dataW x k a 0 rd wr
theorem sread_len {x : Ss} {k : Int} {sp : Spn} (h : (sreadR x k sp).2.1 = 0) : (sreadR x k sp).1.length = (sp.2.2 - sp.2.1).toNat ∧ spnR sp = true := by
  unfold sreadR at h ⊢
  split
  · rename_i hs; rw [if_pos hs] at h; simp at h
  · rename_i hs
    rw [if_neg hs] at h
    refine ⟨?_, by simpa using hs⟩
    split
    · rename_i h1
      rw [if_pos h1] at h
      simp only at h ⊢
      unfold readR at h ⊢
      rw [if_neg hs] at h ⊢
      cases hg : x.M.get k with
      | none => rw [hg] at h; simp at h
      | some v =>
        rw [hg] at h
        simp only at h ⊢
        unfold vrdR at h ⊢
        split
        · rename_i h2; rw [if_pos h2] at h; simp at h
        · exact lookF_len _ _ _ _ _ _
    · rename_i h1
      rw [if_neg h1] at h
      split
      · rename_i h2; rw [if_pos h2] at h; simp at h
      · exact lookF_len _ _ _ _ _ _
theorem sread_len' {x : Ss} {k : Int} {sp : Spn} (h : (sreadR x k sp).2.1 = 0) : (sreadR x k sp).1.length = (sp.2.2 - sp.2.1).toNat ∧ (sreadR x k sp).1.length ≤ 65536 := by
  obtain ⟨h1, h2⟩ := sread_len h
  refine ⟨h1, ?_⟩
  simp [spnR] at h2
  omega
theorem cellsT_len {a : Ask} (hf : a.Fit) (was : Int) (hw : 0 ≤ was ∧ was ≤ 65535) : (cellsT a was).length ≤ 2000 := by
  unfold cellsT
  cases h : a.right with
  | false => simp
  | true => simp only [if_true]; rw [layL_len]; exact (wsC_ok hf h hw).2.1
theorem cellsT_len' {a : Ask} (hf : a.Fit) (was : Int) : (cellsT a was).length ≤ 2000 := by
  have h0 := cellsT_len hf 0 (by omega)
  have e : (cellsT a was).length = (cellsT a 0).length := by
    unfold cellsT
    split
    · rw [layL_len, layL_len]
      unfold wsC
      split <;> (try split) <;> (try split) <;> simp
    · rfl
  omega
theorem data_ok {x : Ss} {k : Int} {a : Ask} {rd wr : List Spn} (hf : a.Fit) (hx : Sv x) (h22 : a.fn = 22 → rd = [] ∧ ∃ s, wr = [s] ∧ s.2.2 = s.2.1 + 1) (hrd : rd.length ≤ 1) (hwr : wr.length ≤ 1) :
    FnOk Tryz.prog 73 [vC (.ptr 0 0), vI .i64 k, a.v, vSp rd, vSp wr] (ssO x) (dataR x k a rd wr).1.v (ssO (dataR x k a rd wr).2) := by
  have he := echo_ok hf
  have hf4 := fail_ok a.fn 4
  unfold dataR
  by_cases hfn : a.fn = 22
  · obtain ⟨rfl, s, rfl, hs⟩ := h22 hfn
    rw [if_pos hfn]
    simp only
    have hr1 := ssRead_ok (sp := s) (hx.go k)
    have hl1 := sread_len' (x := x) (k := k) (sp := s)
    have hx1 := hx.read (c := k) (sp := s)
    generalize sreadR x k s = r1 at *
    obtain ⟨l1, e1, x1⟩ := r1
    simp only at hl1 hx1 ⊢
    by_cases he1 : e1 = 0
    · rw [if_pos he1]
      obtain ⟨hl1, hl1'⟩ := hl1 he1
      have hg1 : (rI .u16 l1)[0]? = some [.int .u16 (l1.getD 0 0)] := rI_get (by omega)
      simp only [dataW]
      have hc := eCells_ok hf (was := l1.getD 0 0)
      have hw1 := ssWrite_ok (c := k) (l := cellsT a (l1.getD 0 0)) (by have := cellsT_len' hf (l1.getD 0 0); omega) (hx1.go k)
      generalize swriteR x1 k (cellsT a (l1.getD 0 0)) = r2 at *
      obtain ⟨e2, x2⟩ := r2
      simp only
      by_cases he2 : e2 = 0
      · rw [if_pos he2]
        simp only [dataE]
        refine FnOk.tree t73 (.f [] he (.a (.b 21 true) (.a (.at [.int .i64 s.1, .int .i64 s.2.1, .int .i64 s.2.2]) (.o s8 [] hr1 (.a (.b 32 false) (.a (.at [.int .u16 (l1.getD 0 0)]) (.a (.b 42 true) (.f [] hc (.o s8 [] hw1 (.a (.b 50 false) (.a (.b 56 false) (.a (.call s8 [] .u []) .nil)))))))))))) rfl rfl rfl rfl ?_
        repeat' (with_reducible apply And.intro)
        all_goals first | trivial | rfl | exact .refl _ | exact leP_refl _ | (simp [leVs, leP, leE, leEs, leL, leC, rI, rwS]; done) | simpa using hfn | simpa using he1 | simpa using he2 | simpa using he3 | (simp; omega)
      · rw [if_neg he2]
        refine FnOk.tree t73 (.f [] he (.a (.b 21 true) (.a (.at [.int .i64 s.1, .int .i64 s.2.1, .int .i64 s.2.2]) (.o s8 [] hr1 (.a (.b 32 false) (.a (.at [.int .u16 (l1.getD 0 0)]) (.a (.b 42 true) (.f [] hc (.o s8 [] hw1 (.a (.b 50 true) (.f [] hf4 (.a (.call s8 [] .u []) .nil)))))))))))) rfl rfl rfl rfl ?_
        repeat' (with_reducible apply And.intro)
        all_goals first | trivial | rfl | exact .refl _ | exact leP_refl _ | (simp [leVs, leP, leE, leEs, leL, leC, rI, rwS]; done) | simpa using hfn | simpa using he1 | simpa using he2 | simpa using he3 | (simp; omega)
    · rw [if_neg he1]
      refine FnOk.tree t73 (.f [] he (.a (.b 21 true) (.a (.at [.int .i64 s.1, .int .i64 s.2.1, .int .i64 s.2.2]) (.o s8 [] hr1 (.a (.b 32 true) (.f [] hf4 (.a (.call s8 [] .u []) .nil))))))) rfl rfl rfl rfl ?_
      repeat' (with_reducible apply And.intro)
      all_goals first | trivial | rfl | exact .refl _ | exact leP_refl _ | (simp [leVs, leP, leE, leEs, leL, leC, rI, rwS]; done) | simpa using hfn | simpa using he1 | simpa using he2 | simpa using he3 | (simp; omega)
  rw [if_neg hfn]
  match wr, hwr with
  | [], _ =>
    simp only [dataW]
    match rd, hrd with
    | [], _ =>
      simp only [dataE]
      refine FnOk.tree t73 (.f [] he (.a (.b 21 false) (.a (.b 42 false) (.a (.b 56 false) (.a (.call s8 [] .u []) .nil))))) rfl rfl rfl rfl ?_
      repeat' (with_reducible apply And.intro)
      all_goals first | trivial | rfl | exact .refl _ | exact leP_refl _ | (simp [leVs, leP, leE, leEs, leL, leC, rI, rwS]; done) | simpa using hfn | simpa using he1 | simpa using he2 | simpa using he3 | (simp; omega)
    | [r], _ =>
      simp only [dataE]
      have hr3 := ssRead_ok (sp := r) (hx.go k)
      have hl3 := sread_len' (x := x) (k := k) (sp := r)
      generalize sreadR x k r = r3 at *
      obtain ⟨l3, e3, x3⟩ := r3
      simp only at hl3 ⊢
      by_cases he3 : e3 = 0
      · rw [if_pos he3]
        obtain ⟨hl3, hl3'⟩ := hl3 he3
        have ht := told_ok (fn := a.fn) (ws := l3) (by omega)
        refine FnOk.tree t73 (.f [] he (.a (.b 21 false) (.a (.b 42 false) (.a (.b 56 true) (.a (.at [.int .i64 r.1, .int .i64 r.2.1, .int .i64 r.2.2]) (.o s8 [] hr3 (.a (.b 67 false) (.f [] ht (.a (.call s8 [] .u []) .nil))))))))) rfl rfl rfl rfl ?_
        repeat' (with_reducible apply And.intro)
        all_goals first | trivial | rfl | exact .refl _ | exact leP_refl _ | (simp [leVs, leP, leE, leEs, leL, leC, rI, rwS]; done) | simpa using hfn | simpa using he1 | simpa using he2 | simpa using he3 | (simp; omega)
      · rw [if_neg he3]
        refine FnOk.tree t73 (.f [] he (.a (.b 21 false) (.a (.b 42 false) (.a (.b 56 true) (.a (.at [.int .i64 r.1, .int .i64 r.2.1, .int .i64 r.2.2]) (.o s8 [] hr3 (.a (.b 67 true) (.f [] hf4 (.a (.call s8 [] .u []) .nil))))))))) rfl rfl rfl rfl ?_
        repeat' (with_reducible apply And.intro)
        all_goals first | trivial | rfl | exact .refl _ | exact leP_refl _ | (simp [leVs, leP, leE, leEs, leL, leC, rI, rwS]; done) | simpa using hfn | simpa using he1 | simpa using he2 | simpa using he3 | (simp; omega)
  | [s], _ =>
    simp only [dataW]
    have hc := eCells_ok hf (was := 0)
    have hw1 := ssWrite_ok (c := k) (l := cellsT a 0) (by have := cellsT_len' hf 0; omega) (hx.go k)
    have hx2 := hx.write (c := k) (l := cellsT a 0)
    generalize swriteR x k (cellsT a 0) = r2 at *
    obtain ⟨e2, x2⟩ := r2
    simp only at hx2 ⊢
    by_cases he2 : e2 = 0
    · rw [if_pos he2]
      match rd, hrd with
      | [], _ =>
        simp only [dataE]
        refine FnOk.tree t73 (.f [] he (.a (.b 21 false) (.a (.b 42 true) (.f [] hc (.o s8 [] hw1 (.a (.b 50 false) (.a (.b 56 false) (.a (.call s8 [] .u []) .nil)))))))) rfl rfl rfl rfl ?_
        repeat' (with_reducible apply And.intro)
        all_goals first | trivial | rfl | exact .refl _ | exact leP_refl _ | (simp [leVs, leP, leE, leEs, leL, leC, rI, rwS]; done) | simpa using hfn | simpa using he1 | simpa using he2 | simpa using he3 | (simp; omega)
      | [r], _ =>
        simp only [dataE]
        have hr3 := ssRead_ok (sp := r) (hx2.go k)
        have hl3 := sread_len' (x := x2) (k := k) (sp := r)
        generalize sreadR x2 k r = r3 at *
        obtain ⟨l3, e3, x3⟩ := r3
        simp only at hl3 ⊢
        by_cases he3 : e3 = 0
        · rw [if_pos he3]
          obtain ⟨hl3, hl3'⟩ := hl3 he3
          have ht := told_ok (fn := a.fn) (ws := l3) (by omega)
          refine FnOk.tree t73 (.f [] he (.a (.b 21 false) (.a (.b 42 true) (.f [] hc (.o s8 [] hw1 (.a (.b 50 false) (.a (.b 56 true) (.a (.at [.int .i64 r.1, .int .i64 r.2.1, .int .i64 r.2.2]) (.o s8 [] hr3 (.a (.b 67 false) (.f [] ht (.a (.call s8 [] .u []) .nil)))))))))))) rfl rfl rfl rfl ?_
          repeat' (with_reducible apply And.intro)
          all_goals first | trivial | rfl | exact .refl _ | exact leP_refl _ | (simp [leVs, leP, leE, leEs, leL, leC, rI, rwS]; done) | simpa using hfn | simpa using he1 | simpa using he2 | simpa using he3 | (simp; omega)
        · rw [if_neg he3]
          refine FnOk.tree t73 (.f [] he (.a (.b 21 false) (.a (.b 42 true) (.f [] hc (.o s8 [] hw1 (.a (.b 50 false) (.a (.b 56 true) (.a (.at [.int .i64 r.1, .int .i64 r.2.1, .int .i64 r.2.2]) (.o s8 [] hr3 (.a (.b 67 true) (.f [] hf4 (.a (.call s8 [] .u []) .nil)))))))))))) rfl rfl rfl rfl ?_
          repeat' (with_reducible apply And.intro)
          all_goals first | trivial | rfl | exact .refl _ | exact leP_refl _ | (simp [leVs, leP, leE, leEs, leL, leC, rI, rwS]; done) | simpa using hfn | simpa using he1 | simpa using he2 | simpa using he3 | (simp; omega)
    · rw [if_neg he2]
      refine FnOk.tree t73 (.f [] he (.a (.b 21 false) (.a (.b 42 true) (.f [] hc (.o s8 [] hw1 (.a (.b 50 true) (.f [] hf4 (.a (.call s8 [] .u []) .nil)))))))) rfl rfl rfl rfl ?_
      repeat' (with_reducible apply And.intro)
      all_goals first | trivial | rfl | exact .refl _ | exact leP_refl _ | (simp [leVs, leP, leE, leEs, leL, leC, rI, rwS]; done) | simpa using hfn | simpa using he1 | simpa using he2 | simpa using he3 | (simp; omega)
end Go.Proofs.YthddlkhfkncgpaaGreat

set_option maxRecDepth 100000
set_option maxHeartbeats 2000000
set_option linter.unusedVariables false
set_option linter.unusedSimpArgs false
namespace Go.Proofs.YthddlkhfkncgpaaGreat
open Go.RowKit

theorem spans_props {a : Ask} (h : a.right = true) (h43 : a.fn ≠ 43) : (spans a).1.length ≤ 1 ∧ (spans a).2.length ≤ 1 ∧ 0 < (spans a).1.length + (spans a).2.length ∧ (a.fn = 22 → (spans a).1 = [] ∧ ∃ s, (spans a).2 = [s] ∧ s.2.2 = s.2.1 + 1) := by
  have hk := of_decide_eq_true (right_known h)
  unfold spans
  rw [if_neg (by simp [h])]
  by_cases h23 : a.fn = 23
  · rw [if_pos h23]; simp [h23]
  rw [if_neg h23]
  by_cases h15 : a.fn = 15 ∨ a.fn = 16
  · rw [if_pos h15]; simp; omega
  rw [if_neg h15]
  by_cases h5 : a.fn = 5 ∨ a.fn = 6 ∨ a.fn = 22
  · rw [if_pos h5]; simp
  rw [if_neg h5, if_neg h43]
  simp
  omega
def doR (c : Cf) (x : Ss) (k : Int) (a : Ask) : Tell × Ss :=
  if a.right = false then (failT a.fn 3, x)
  else if a.fn = 43 then (devT c a, x)
  else if (((spans a).1 ++ (spans a).2).any fun s => whereS c.map c.window s == 0) = true then (failT a.fn 2, x)
  else if (((spans a).1 ++ (spans a).2).any fun s => whereS c.map c.window s == 2) = true then ctlR x c.window k a
  else if ((spans a).2.any fun s => splitsS c.groups s) = true then (failT a.fn 2, x)
  else if ((stG x.A k).st == 2) = true then (failT a.fn 4, x)
  else dataR x k a (spans a).1 (spans a).2
theorem do_ok {c : Cf} (hc : c.Ok) {x : Ss} (hx : Sw x) {k : Int} {a : Ask} (hf : a.Fit) : FnOk Tryz.prog 21 [vC (.ptr 0 0), c.v, vI .i64 k, a.v] (ssO x) (doR c x k a).1.v (ssO (doR c x k a).2) := by
  have hr := askRight_ok hf
  have hf3 := fail_ok a.fn 3
  unfold doR
  cases h : a.right with
  | false =>
    rw [h] at hr
    rw [if_pos rfl]
    refine FnOk.tree t21 (.f [] hr (.f [] hf3 (.a (.call s8 [] .u []) .nil))) rfl rfl rfl rfl ?_
    repeat' (with_reducible apply And.intro)
    all_goals first | trivial | rfl | exact .refl _ | exact leP_refl _ | (simp [leVs, leP, leE, leEs, leL, leC]; done)
  | true =>
  have h' := h
  rw [h] at hr
  rw [if_neg (by simp)]
  by_cases h43 : a.fn = 43
  · rw [if_pos h43]
    have hd := device_ok hc (a := a)
    refine FnOk.tree t21 (.f [] hr (.a (.b 22 true) (.f [] hd (.a (.call s8 [] .u []) .nil)))) rfl rfl rfl rfl ?_
    repeat' (with_reducible apply And.intro)
    all_goals first | trivial | rfl | exact .refl _ | exact leP_refl _ | (simp [leVs, leP, leE, leEs, leL, leC, h43]; done)
  rw [if_neg h43]
  have hsp := spans_ok hf
  obtain ⟨p1, p2, p3, p4⟩ := spans_props h' h43
  have hctl := control_ok hf h' hc.window (hx.v.go k) (hx.k k).2.2.1 (w := c.window)
  have hdat := data_ok (k := k) hf hx.v p4 p1 p2
  generalize spans a = sp at *
  obtain ⟨rd, wr⟩ := sp
  simp only at p1 p2 p3 hdat ⊢
  have hcat := concat_ok (r := rd) (w := wr) p3 (by omega)
  have hlen : (rd ++ wr).length ≤ 1000000 := by simp; omega
  have h0 := anyIn_ok hc (k := 0) hlen
  have h2 := anyIn_ok hc (k := 2) hlen
  have hs := anySpl_ok hc (l := wr) (by omega)
  have m0 := mkIn_ok (c := c) (k := 0)
  have m2 := mkIn_ok (c := c) (k := 2)
  have hst := state_ok (x := x) (c := k)
  have hf2 := fail_ok a.fn 2
  have hf4 := fail_ok a.fn 4
  generalize ctlR x c.window k a = rc at *
  generalize dataR x k a rd wr = rdd at *
  cases b0 : (rd ++ wr).any fun s => whereS c.map c.window s == 0 with
  | true =>
    rw [b0] at h0
    rw [if_pos rfl]
    refine FnOk.tree t21 (.f [] hr (.a (.b 22 false) (.f [] hsp (.f [] hcat (.a (.call [8] [] (vC (.fn 67 [.ptr 0 0, .ptr 1 0])) [.box c.cs, .box [.t (.int .i64 0)]]) (.o [8, 11] [] h0 (.f [] hf2 (.a (.call s8 [] .u []) .nil)))))))) rfl rfl rfl rfl ?_
    repeat' (with_reducible apply And.intro)
    all_goals first | trivial | rfl | exact .refl _ | exact leP_refl _ | (simp [leVs, leP, leE, leEs, leL, leC]; done) | simpa using h43 | exact m0
  | false =>
  rw [b0] at h0
  rw [if_neg (by simp)]
  cases b2 : (rd ++ wr).any fun s => whereS c.map c.window s == 2 with
  | true =>
    rw [b2] at h2
    rw [if_pos rfl]
    refine FnOk.tree t21 (.f [] hr (.a (.b 22 false) (.f [] hsp (.f [] hcat (.a (.call [8] [] (vC (.fn 67 [.ptr 0 0, .ptr 1 0])) [.box c.cs, .box [.t (.int .i64 0)]]) (.o [8, 11] [] h0 (.a (.call [8] [] (vC (.fn 67 [.ptr 0 0, .ptr 1 0])) [.box c.cs, .box [.t (.int .i64 2)]]) (.o [8, 12] [] h2 (.o s8 [] hctl (.a (.call s8 [] .u []) .nil)))))))))) rfl rfl rfl rfl ?_
    repeat' (with_reducible apply And.intro)
    all_goals first | trivial | rfl | exact .refl _ | exact leP_refl _ | (simp [leVs, leP, leE, leEs, leL, leC]; done) | simpa using h43 | exact m0 | exact m2
  | false =>
  rw [b2] at h2
  rw [if_neg (by simp)]
  cases bs : wr.any fun s => splitsS c.groups s with
  | true =>
    rw [bs] at hs
    rw [if_pos rfl]
    refine FnOk.tree t21 (.f [] hr (.a (.b 22 false) (.f [] hsp (.f [] hcat (.a (.call [8] [] (vC (.fn 67 [.ptr 0 0, .ptr 1 0])) [.box c.cs, .box [.t (.int .i64 0)]]) (.o [8, 11] [] h0 (.a (.call [8] [] (vC (.fn 67 [.ptr 0 0, .ptr 1 0])) [.box c.cs, .box [.t (.int .i64 2)]]) (.o [8, 12] [] h2 (.o [8] [] hs (.f [] hf2 (.a (.call s8 [] .u []) .nil))))))))))) rfl rfl rfl rfl ?_
    repeat' (with_reducible apply And.intro)
    all_goals first | trivial | rfl | exact .refl _ | exact leP_refl _ | (simp [leVs, leP, leE, leEs, leL, leC]; done) | simpa using h43 | exact m0 | exact m2
  | false =>
  rw [bs] at hs
  rw [if_neg (by simp)]
  cases bd : ((stG x.A k).st == 2) with
  | true =>
    rw [if_pos rfl]
    refine FnOk.tree t21 (.f [] hr (.a (.b 22 false) (.f [] hsp (.f [] hcat (.a (.call [8] [] (vC (.fn 67 [.ptr 0 0, .ptr 1 0])) [.box c.cs, .box [.t (.int .i64 0)]]) (.o [8, 11] [] h0 (.a (.call [8] [] (vC (.fn 67 [.ptr 0 0, .ptr 1 0])) [.box c.cs, .box [.t (.int .i64 2)]]) (.o [8, 12] [] h2 (.o [8] [] hs (.o s8 [] hst (.a (.b 63 true) (.f [] hf4 (.a (.call s8 [] .u []) .nil))))))))))))) rfl rfl rfl rfl ?_
    repeat' (with_reducible apply And.intro)
    all_goals first | trivial | rfl | exact .refl _ | exact leP_refl _ | (simp [leVs, leP, leE, leEs, leL, leC]; done) | simpa using h43 | exact m0 | exact m2 | exact bd
  | false =>
    rw [if_neg (by simp)]
    refine FnOk.tree t21 (.f [] hr (.a (.b 22 false) (.f [] hsp (.f [] hcat (.a (.call [8] [] (vC (.fn 67 [.ptr 0 0, .ptr 1 0])) [.box c.cs, .box [.t (.int .i64 0)]]) (.o [8, 11] [] h0 (.a (.call [8] [] (vC (.fn 67 [.ptr 0 0, .ptr 1 0])) [.box c.cs, .box [.t (.int .i64 2)]]) (.o [8, 12] [] h2 (.o [8] [] hs (.o s8 [] hst (.a (.b 63 false) (.o s8 [] hdat (.a (.call s8 [] .u []) .nil))))))))))))) rfl rfl rfl rfl ?_
    repeat' (with_reducible apply And.intro)
    all_goals first | trivial | rfl | exact .refl _ | exact leP_refl _ | (simp [leVs, leP, leE, leEs, leL, leC]; done) | simpa using h43 | exact m0 | exact m2 | exact bd
end Go.Proofs.YthddlkhfkncgpaaGreat
