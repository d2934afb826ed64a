/-
  ExecIdentifies.
-/
import Derived.Test.YthddlkhfkncgpaaGreatE12
import Derived.Test.YthddlkhfkncgpaaGreatI4e
import Derived.Test.YthddlkhfkncgpaaGreatM43s
set_option maxRecDepth 100000
set_option maxHeartbeats 4000000
set_option linter.unusedVariables false
set_option linter.unusedSimpArgs false
namespace Go.Proofs.YthddlkhfkncgpaaGreat
open Go.RowKit

abbrev ssKi (x : Ss) (c : Cf) (a : Ask) (t : Tell) : List Ob := [.box [.ptr 1 0, .t (.int .i64 x.t), .ptr 5 0, .mp 7], .box [.ptr 2 0, .t (.int .i64 x.e.most), .t (.int .i64 x.e.spans), .t (.int .i64 x.e.writes), .mp 4], stB x.s 3, stM x.s, eM x.M, .box [.t (.int .i64 x.t), .mp 6], bkM x.b, aM x.A, .box c.cs, .box a.cs, .box t.cs]
abbrev rawR : Ask := { fn := 4, n := 1 }
theorem rawR_fit : rawR.Fit := fitA (by simp [b64]) (by simp [b64]) (by simp [b64]) (by simp) (by simp) (by simp) (by simp) (by simp) wrd_nil (by simp [b64]) (by simp [b64]) (by simp [b64]) (by simp [b64])
def devA (c o : Int) : Ask := { fn := 43, code := 1 + c % 4, obj := o % 256 }
theorem devA_fit {c o : Int} : (devA c o).Fit := fitA (by simp [devA, b64]) (by simp [devA, b64]) (by simp [devA, b64]) (by simp [devA]) (by simp [devA]) (by simp [devA]) (by simp [devA]) (by simp [devA]) wrd_nil (by simp [devA, b64]) (by simp [devA, b64]) (by simp [devA, b64]; omega) (by simp [devA, b64]; omega)
theorem devA_right {c o : Int} : (devA c o).right = true := by
  simp [devA, Ask.right, Ask.same, Ask.only, Ask.rest, known, placeB, countsB, kMost]
  exact ⟨decide_eq_true (by omega), decide_eq_true (by omega)⟩
theorem do_dev {c : Cf} {x : Ss} {k p o : Int} : doR c x k (devA p o) = (devT c (devA p o), x) := by
  unfold doR
  rw [devA_right, if_neg (by simp), if_pos (show (devA p o).fn = 43 from rfl)]
theorem objU_ok : ObjsOk objU := ⟨by simp [objU], by simp [objU], by simp [objU]; decide⟩
/-- What is told of the device. -/
def idT (c o : Int) : Tell := if (answerR objU (1 + c % 4) (o % 256)).2 = 0 then (answerR objU (1 + c % 4) (o % 256)).1 else { fn := 43, exc := (answerR objU (1 + c % 4) (o % 256)).2 }
theorem idT_dev {c : Cf} (h : c.objs = objU) {p o : Int} : devT c (devA p o) = idT p o := by
  unfold devT idT
  rw [h]
  show (if (answerL objU (1 + p % 4) (o % 256)).2 = 0 then _ else _) = _
  rw [show (answerL objU (devA p o).code (devA p o).obj) = answerL objU (1 + p % 4) (o % 256) from rfl, answer_eq objU_ok]
  rfl
theorem idT_fit {p o : Int} : (idT p o).Fit := by
  obtain ⟨h1, h2, _⟩ := answerR_fine objU_ok (by simp [objU]) (1 + p % 4) (o % 256)
  unfold idT
  split
  · exact h1
  · exact ⟨by simp [b64], h2, by simp, by simp, wrd_nil, by simp [b64], by simp [b64], by simp, by simp, by simp, by simp [b64], by simp [b64], by simp [b64], by simp, fun o h => (nomatch h)⟩
theorem execIdentifies_ok {ks la : List Int} {tk cd ob : Int} (hks : ∀ x ∈ ks, b64 x) (hla : ∀ x ∈ la, b64 x) (h1 : ks.length ≤ 9223372036854775807) (h2 : la.length ≤ 9223372036854775807) (ht : b64 tk) (hcd : b64 cd) (hob : b64 ob) :
    FnOk Tryz.prog 6 [vD (lI .i64 ks), vD (lI .i64 la), vI .i64 tk, vI .i64 cd, vI .i64 ob] [] (vB true) [] := by
  have ha := awake25_ok
  by_cases hn : 30 < la.length
  · refine FnOk.tree t6 (.a (.b 23 true) (.f [] ha .nil)) rfl rfl rfl rfl ?_
    repeat' (with_reducible apply And.intro)
    all_goals first | trivial | rfl | (exact decide_eq_true (by omega)) | (simp [leVs, leP, leE, leL, leC]; done)
  have hW := conf_ok hks h1
  have hS := sessions_ok (c := confC ks)
  have hC := confC_ok ks
  have hX := ssC_x (confC_lo ks)
  have hobj : (confC ks).objs = objU := rfl
  have hw4 := within_ok (k := cd) (n := 4) hcd (by omega)
  have hw256 := within_ok (k := ob) (n := 256) hob (by omega)
  have hw15 := within_ok (k := tk) (n := 15) ht (by omega)
  have htr := mod_rng tk (n := 15) (by omega)
  have hT := @idT_fit cd ob
  have hsame := sameTell_ok hT
  have hans := rAnswer_ok (l := objU) (by simp [objU]) (c := 1 + cd % 4) (x := ob % 256) hC.ob
  have hidT : idT cd ob = if (answerR objU (1 + cd % 4) (ob % 256)).2 = 0 then (answerR objU (1 + cd % 4) (ob % 256)).1 else { fn := 43, exc := (answerR objU (1 + cd % 4) (ob % 256)).2 } := rfl
  generalize hT0 : capT (confC ks).lease = T0 at *
  generalize ssC (confC ks) = y0 at *
  generalize confC ks = c at *
  have hdo : ∀ {y : Ss}, Sw y → FnOk Tryz.prog 21 [vC (.ptr 0 0), c.v, vI .i64 0, (devA cd ob).v] (ssO y) (idT cd ob).v (ssO y) := fun hy => by
    have := do_ok hC hy (k := 0) (devA_fit (c := cd) (o := ob))
    rw [do_dev, idT_dev hobj] at this
    exact this
  generalize answerR objU (1 + cd % 4) (ob % 256) = r at *
  obtain ⟨r1, r2⟩ := r
  generalize tk % 15 = tn at *
  refine FnOk.start t6 rfl rfl rfl ?_
  refine Tri.seq (Tri.go [] rfl trivial ?_)
  refine Tri.seq (Tri.tree (.a (.b 23 false) (.f [] ha .nil)) rfl ⟨decide_eq_false (by omega), trivial, by simp [leVs], ?_⟩)
  refine Tri.seq (Tri.tree (.f [] hW .nil) rfl ⟨trivial, by simp [leVs], ?_⟩)
  refine Tri.seq (Tri.tree (.o [] [] hS .nil) rfl ⟨trivial, by simp [leVs, leP, leE, leL, leC], rfl, ?_⟩)
  refine Tri.seq (Tri.go [] rfl ⟨trivial, trivial⟩ ?_)
  refine Tri.let [1, 2, 3, 4, 5, 6, 7, 8, 0] [] [1, 2, 3, 4, 11, 12] rfl trivial ?_
  refine Tri.seq (Tri.tree (.f [] hw4 (.f [] hw256 .nil)) rfl ⟨trivial, by simp [leVs, leP, leE, leC], by omega, trivial, by simp [leVs, leP, leE, leC], ?_⟩)
  refine Tri.seq (Tri.tree (.o [0, 1, 2, 3, 4, 5, 6, 7] [] (hdo hX.w) .nil) rfl ⟨trivial, by simp [leVs, leP, leE, leL, leC, devA], rfl, ?_⟩)
  have hz : ∃ a, a = devA cd ob ∧ a.code = 1 + cd % 4 ∧ a.obj = ob % 256 := ⟨_, rfl, rfl, rfl⟩
  refine Tri.wkO (hl' := ssKi y0 c (devA cd ob) (idT cd ob)) ?_ ?_
  · refine .cons (.refl _) (.cons (.refl _) (.cons (.refl _) (.cons (.refl _) (.cons (.refl _) (.cons (.refl _) (.cons (.refl _) (.cons (.refl _) (.cons (.refl _) (.cons (.box ?_) (.cons (.refl _) .nil))))))))))
    repeat (first | exact LeCs.nil | refine LeCs.cons (.refl _) ?_ | refine LeCs.cons leF ?_ | refine LeCs.cons leI ?_)
  refine Tri.mid (fun ρ hl => ∃ y, Sx T0 y ∧ hl = ssKi y c (devA cd ob) (idT cd ob) ∧ keepE ρ [2, 11, 12, 14, 15] = some [(2, vI .i64 tk), (11, vC (.ptr 8 0)), (12, vC (.ptr 0 0)), (14, vC (.ptr 9 0)), (15, vC (.ptr 10 0))]) ?_ ?_
  · refine Tri.seq (Tri.go [] rfl trivial ?_)
    refine Tri.block ?_
    refine Tri.lp (fun z ρ hl => ∃ (i : Nat) (y : Ss), z = la.length - i ∧ i ≤ la.length ∧ Sx T0 y ∧ hl = ssKi y c (devA cd ob) (idT cd ob) ∧
      keepE ρ [1, 2, 11, 12, 14, 15, 16] = some [(1, vD (lI .i64 la)), (2, vI .i64 tk), (11, vC (.ptr 8 0)), (12, vC (.ptr 0 0)), (14, vC (.ptr 9 0)), (15, vC (.ptr 10 0)), (16, vI .i64 i)]) la.length ⟨0, y0, by omega, by omega, hX, rfl, keep_of rfl (by simp)⟩ ?_
    rintro z ρ hl' ⟨i, y, rfl, hi, hO, rfl, hkk⟩
    refine Tri.keep _ hkk ?_
    by_cases hA' : la.length ≤ i
    · exact Tri.go [.b 50 false] rfl ⟨decide_eq_false (by omega), trivial⟩ (outQ ⟨y, hO, rfl, keep_of rfl rfl⟩)
    have hA : i < la.length := by omega
    have hg : (rI .i64 la)[i]? = some [.int .i64 la[i]] := by simp [rI, hA]
    have hb := hla _ (List.getElem_mem hA)
    generalize la[i] = k at *
    have hnx := next_ok hb hb (raw := rawR)
    have hnf := nextA_fit (k := k) (v := k) rawR_fit
    have hd1 := do_ok hC hO.w (k := 0) hnf
    have hD := hO.do (k := 0) (by omega) (c := c) (a := nextA k k rawR)
    generalize doR c y 0 (nextA k k rawR) = rr at *
    obtain ⟨t, y2⟩ := rr
    simp only at hD hd1
    refine Tri.seq (Tri.go [.b 50 true] rfl ⟨decide_eq_true (by omega), trivial⟩ ?_)
    refine Tri.seq (Tri.block (Tri.tree (.a (.at [.int .i64 k]) (.a (.at [.int .i64 k]) (.f [] hnx (.o [0, 1, 2, 3, 4, 5, 6, 7] [] hd1 .nil)))) rfl ?_))
    refine ⟨⟨by omega, rfl, hg⟩, ⟨by omega, rfl, hg⟩, trivial, by simp [leVs, leP, leE, leL, leC], trivial, by simp [leVs, leP, leE, leL, leC], rfl, ?_⟩
    exact Tri.go [] rfl ⟨by omega, trivial⟩ (again (la.length - (i + 1)) (by omega) ⟨i + 1, y2, rfl, by omega, hD, rfl, keep_of rfl (by simp)⟩)
  clear hX hS
  rintro ρ hl' ⟨y0, hX, rfl, hkk⟩
  refine Tri.keep _ hkk ?_
  refine Tri.mid (fun ρ hl => ∃ y, Sx T0 y ∧ hl = ssKi y c (devA cd ob) (idT cd ob) ∧ keepE ρ [11, 12, 14, 15] = some [(11, vC (.ptr 8 0)), (12, vC (.ptr 0 0)), (14, vC (.ptr 9 0)), (15, vC (.ptr 10 0))]) ?_ ?_
  · refine Tri.seq (Tri.go [] rfl trivial ?_)
    refine Tri.block ?_
    refine Tri.lp (fun z ρ hl => ∃ (i : Nat) (y : Ss), z = tn.toNat - i ∧ i ≤ tn.toNat ∧ Sx T0 y ∧ hl = ssKi y c (devA cd ob) (idT cd ob) ∧
      keepE ρ [2, 11, 12, 14, 15, 17] = some [(2, vI .i64 tk), (11, vC (.ptr 8 0)), (12, vC (.ptr 0 0)), (14, vC (.ptr 9 0)), (15, vC (.ptr 10 0)), (17, vI .i64 i)]) tn.toNat ⟨0, y0, by omega, by omega, hX, rfl, keep_of rfl (by simp)⟩ ?_
    rintro z ρ hl' ⟨i, y, rfl, hi, hO, rfl, hkk⟩
    refine Tri.keep _ hkk ?_
    by_cases hA' : tn.toNat ≤ i
    · exact Tri.seq (Tri.tree (.f [] hw15 (.a (.b 69 false) .nil)) rfl ⟨trivial, by simp [leVs, leP, leE, leC], decide_eq_false (by omega), y, hO, rfl, keep_of rfl rfl⟩)
    have htk := ssTick_ok hO.b.wf hO.b.len
    refine Tri.seq (Tri.tree (.f [] hw15 (.a (.b 69 true) .nil)) rfl ⟨trivial, by simp [leVs, leP, leE, leC], decide_eq_true (by omega), ?_⟩)
    refine Tri.seq (Tri.block (Tri.tree (.o [0, 1, 2, 3, 4, 5, 6, 7] [] htk .nil) rfl ⟨trivial, by simp [leVs, leP, leE, leC], rfl, ?_⟩))
    exact Tri.go [] rfl ⟨by omega, trivial⟩ (again (tn.toNat - (i + 1)) (by omega) ⟨i + 1, _, rfl, by omega, hO.tick, rfl, keep_of rfl (by simp)⟩)
  clear hX
  rintro ρ hl' ⟨y, hX, rfl, hkk⟩
  refine Tri.keep _ hkk ?_
  refine Tri.seq (Tri.tree (.f [] hans .nil) rfl ⟨trivial, by simp [leVs, leP, leE, leL, leC, devA, hobj], ?_⟩)
  refine Tri.mid (fun ρ hl => LeOs hl (ssKi y c (devA cd ob) (idT cd ob) ++ [.box (idT cd ob).cs]) ∧ keepE ρ [11, 12, 14, 15, 18] = some [(11, vC (.ptr 8 0)), (12, vC (.ptr 0 0)), (14, vC (.ptr 9 0)), (15, vC (.ptr 10 0)), (18, vC (.ptr 11 0))]) ?_ ?_
  · by_cases h0 : r2 = 0
    · subst h0
      rw [if_pos rfl] at hidT
      rw [hidT]
      exact Tri.tree (.a (.b 85 false) .nil) rfl ⟨by simp, .of rfl, keep_of rfl rfl⟩
    · rw [if_neg h0] at hidT
      rw [hidT]
      refine Tri.tree (.a (.b 85 true) .nil) rfl ⟨by simpa using h0, ?_, keep_of rfl rfl⟩
      refine .cons (.refl _) (.cons (.refl _) (.cons (.refl _) (.cons (.refl _) (.cons (.refl _) (.cons (.refl _) (.cons (.refl _) (.cons (.refl _) (.cons (.refl _) (.cons (.refl _) (.cons (.refl _) (.cons (.box ?_) .nil)))))))))))
      repeat (first | exact LeCs.nil | refine LeCs.cons (.refl _) ?_ | refine LeCs.cons leF ?_ | refine LeCs.cons leI ?_ | refine LeCs.cons leOb ?_)
  rintro ρ hl' ⟨hle, hkk⟩
  refine Tri.keep _ hkk ?_
  refine Tri.wkO hle ?_
  have hd2 := hdo hX.w
  generalize idT cd ob = tt at *
  generalize devA cd ob = aa at *
  refine Tri.treeR (.f [] hsame (.o [0, 1, 2, 3, 4, 5, 6, 7] [] hd2 (.f [] hsame .nil))) rfl ?_
  repeat' (with_reducible apply And.intro)
  all_goals first | trivial | rfl | exact .refl _ | exact leP_refl _ | (simp [leVs, leP, leE, leEs, leL, leC]; done)
end Go.Proofs.YthddlkhfkncgpaaGreat
