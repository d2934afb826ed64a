/-
  The cells that a request writes (25.3), by the document.
-/
import Derived.Test.YthddlkhfkncgpaaGreatC2
import Derived.Test.YthddlkhfkncgpaaGreatM31
set_option maxRecDepth 100000
set_option maxHeartbeats 1000000
set_option linter.unusedVariables false
set_option linter.unusedSimpArgs false
namespace Go.Proofs.YthddlkhfkncgpaaGreat
open Go.RowKit

def WrAt (a : Ask) (ws : List Int) : Prop := ws = [] ∨ ∃ t, (spans a).2 = [(t, a.at_, a.at_ + ws.length)]
def oneW (bs : List Bool) (n : Nat) : List Int := (bs.take n).map one
theorem oneW_len {bs : List Bool} {n : Nat} (h : n ≤ bs.length) : (oneW bs n).length = n := by simp [oneW]; omega
theorem oneW_succ {bs : List Bool} {n : Nat} (h : n < bs.length) : oneW bs (n + 1) = oneW bs n ++ [one (bs.getD n false)] := by
  unfold oneW
  rw [← List.take_append_getElem h, List.map_append]
  simp [List.getD_eq_getElem?_getD, h]
theorem oneW_wrd (bs : List Bool) (n : Nat) : Wrd (oneW bs n) := fun x hx => by
  obtain ⟨b, _, rfl⟩ := List.mem_map.1 hx
  cases b <;> simp [one]
def maskE (was an og : Int) : Int := IntKind.u16.wrap (BitVec.ofInt IntKind.u16.bits (IntKind.u16.wrap (BitVec.ofInt IntKind.u16.bits was &&& BitVec.ofInt IntKind.u16.bits an).toNat) ||| BitVec.ofInt IntKind.u16.bits (IntKind.u16.wrap (BitVec.ofInt IntKind.u16.bits og &&& BitVec.ofInt IntKind.u16.bits (IntKind.u16.wrap (65535 - an))).toNat)).toNat
theorem maskE_rng (was an og : Int) : 0 ≤ maskE was an og ∧ maskE was an og ≤ 65535 := by
  unfold maskE
  generalize (BitVec.toNat _ : Nat) = x
  rw [wu16]
  omega
/-- What a request writes. -/
def wsC (a : Ask) (was : Int) : List Int :=
  if a.fn = 5 ∨ a.fn = 6 then [a.val] else if a.fn = 15 then oneW a.bits a.bits.length else if a.fn = 22 then [maskE was a.and_ a.or_] else if a.fn = 16 ∨ a.fn = 23 then a.words else []
theorem cells21e_ok {a : Ask} (hf : a.Fit) (hr : a.right = true) {was : Int} (hw : 0 ≤ was ∧ was ≤ 65535) : ∃ ws, ws = wsC a was ∧ Wrd ws ∧ ws.length ≤ 2000 ∧ WrAt a ws ∧ FnOk Tryz.prog 15 [a.v, vI .u16 was] [] (vCl (layL (rTab a.fn).1 a.at_ ws ws.length)) [] := by
  have hk := right_known hr
  have hrr := rRight_ok hf
  rw [hr] at hrr
  have h := hr
  have h' := hr
  have ht := rTable_ok a.fn
  have hfn := of_decide_eq_true hk
  clear hk hr
  have hfv := hf.val
  have hfw := hf.wrd
  obtain ⟨fn, at_, n, vl, an, og, bs, ws, ra, rn, cd, ob⟩ := a
  simp only at hfn ht hfv hfw
  rcases hfn with rfl | rfl | rfl | rfl | rfl | rfl | rfl | rfl | rfl | rfl | rfl
  iterate 4
    · exact ⟨[], by simp [wsC], fun x hx => (nomatch hx), by simp, .inl rfl, FnOk.tree t15 (.f [] hrr (.f [] ht .nil)) rfl rfl rfl rfl (by simp [leVs, leP, leE, leL, leC, leEs, layL, rwC])⟩
  · simp [Ask.right, Ask.same, Ask.only, Ask.rest, known, countsB, kMost, placeB] at h
    have hlay := lay_ok (t := (rTab 5).1) (a := at_) (ws := [vl]) (by omega) (by simp)
    refine ⟨[vl], by simp [wsC], fun x hx => ?_, by simp, .inr ⟨_, by simp [spans, h']; rfl⟩, FnOk.tree t15 (.f [] hrr (.f [] ht (.f [] hlay .nil))) rfl rfl rfl rfl ?_⟩
    · simp at hx; subst hx; exact hfv
    · simp [leVs, leP, leE, leL, leC, leEs, rI]
  · simp [Ask.right, Ask.same, Ask.only, Ask.rest, known, countsB, kMost, placeB] at h
    have hlay := lay_ok (t := (rTab 6).1) (a := at_) (ws := [vl]) (by omega) (by simp)
    refine ⟨[vl], by simp [wsC], fun x hx => ?_, by simp, .inr ⟨_, by simp [spans, h']; rfl⟩, FnOk.tree t15 (.f [] hrr (.f [] ht (.f [] hlay .nil))) rfl rfl rfl rfl ?_⟩
    · simp at hx; subst hx; exact hfv
    · simp [leVs, leP, leE, leL, leC, leEs, rI]
  · simp [Ask.right, Ask.same, Ask.only, Ask.rest, known, countsB, kMost, placeB] at h
    have hlay := lay_ok (t := (rTab 15).1) (a := at_) (ws := oneW bs bs.length) (by omega) (by rw [oneW_len (Nat.le_refl _)]; omega)
    have hbl := oneW_len (bs := bs) (Nat.le_refl _)
    refine ⟨oneW bs bs.length, by simp [wsC], oneW_wrd _ _, by rw [hbl]; omega, .inr ⟨(kTab 15).1, by simp [spans, h', hbl]; omega⟩, ?_⟩
    refine FnOk.start t15 rfl rfl rfl ?_
    refine Tri.seq (Tri.go [] rfl trivial ?_)
    refine Tri.seq (Tri.tree (.f [] hrr (.a (.b 13 false) .nil)) rfl ⟨trivial, by simp [leVs, leP, leE, leL, leC], rfl, ?_⟩)
    refine Tri.seq (Tri.tree (.f [] ht .nil) rfl ⟨trivial, by simp [leVs, leP, leE, leL, leC], ?_⟩)
    refine Tri.seq (Tri.go [] rfl trivial ?_)
    refine Tri.seq (Tri.seq (Tri.go [] rfl trivial ?_))
    refine Tri.block ?_
    refine Tri.seq (Tri.go [] rfl trivial ?_)
    refine Tri.cond rfl (fun h => by simp at h) (fun _ => ?_)
    refine Tri.seq (Tri.go [] rfl trivial ?_)
    refine Tri.cond rfl (fun _ => ?_) (fun h => by simp at h)
    refine Tri.seq (Tri.go [] rfl trivial ?_)
    refine Tri.mid (fun ρ hl => hl = [.box [.t (.int .i64 15), .t (.int .i64 at_), .t (.int .i64 n), .t (.int .u16 vl), .t (.int .u16 an), .t (.int .u16 og), .t (lF bs), .t (lI .u16 ws), .t (.int .i64 ra), .t (.int .i64 rn), .t (.int .i64 cd), .t (.int .i64 ob)], .box [.t (.int .i64 0), .t (.int .i64 at_)], .arr 1 (rI .u16 (oneW bs bs.length))] ∧ keepE ρ [7, 8] = some [(7, vC (.ptr 1 0)), (8, vC (.sl 2 0 bs.length))]) ?_ ?_
    · refine Tri.seq (Tri.go [] rfl trivial ?_)
      refine Tri.block ?_
      refine Tri.own 8 1 (by omega) rfl ?_
      refine Tri.lp (fun q ρ hl => ∃ i, q = bs.length - i ∧ i ≤ bs.length ∧ hl = [.box [.t (.int .i64 15), .t (.int .i64 at_), .t (.int .i64 n), .t (.int .u16 vl), .t (.int .u16 an), .t (.int .u16 og), .t (lF bs), .t (lI .u16 ws), .t (.int .i64 ra), .t (.int .i64 rn), .t (.int .i64 cd), .t (.int .i64 ob)], .box [.t (.int .i64 0), .t (.int .i64 at_)], .arr 1 (rI .u16 (oneW bs i))] ∧ keepE ρ [2, 7, 8, 9] = some [(2, vC (.ptr 0 0)), (7, vC (.ptr 1 0)), (8, vC (.sl 2 0 i)), (9, vI .i64 i)]) bs.length ⟨0, by omega, by omega, rfl, keep_of rfl rfl⟩ ?_
      rintro q ρ hl' ⟨i, rfl, hi, rfl, hkk⟩
      refine Tri.keep _ hkk ?_
      by_cases h2 : i < bs.length
      · have hg := rF_get h2
        have hll := oneW_len (bs := bs) (n := i) (by omega)
        have hs := oneW_succ h2
        generalize bs.getD i false = b at *
        refine Tri.seq (Tri.go [.b 40 true] rfl ⟨decide_eq_true (by omega), trivial⟩ ?_)
        refine Tri.seq (Tri.block (Tri.seq (Tri.go [] rfl trivial ?_)))
        rcases b with _ | _
        · refine Tri.seq (Tri.tree (.a (.at [.bool false]) .nil) rfl ⟨⟨by omega, rfl, by simpa using hg⟩, ?_⟩)
          refine Tri.tree .nil rfl ⟨⟨⟨rfl, by simp⟩, trivial⟩, ⟨.inr rfl, rfl, by simp [hll], by simp, by omega, by omega⟩, ?_⟩
          refine Tri.let [0, 1, 3] [] [2, 7, 8, 9] rfl trivial ?_
          refine Tri.go [] rfl ⟨by omega, trivial⟩ (again (bs.length - (i + 1)) (by omega) ⟨i + 1, rfl, by omega, ?_, keep_of rfl (by simp)⟩)
          rw [hs, ← rI_app]
          rfl
        · refine Tri.seq (Tri.tree (.a (.at [.bool true]) .nil) rfl ⟨⟨by omega, rfl, by simpa using hg⟩, ?_⟩)
          refine Tri.tree .nil rfl ⟨⟨⟨rfl, by simp⟩, trivial⟩, ⟨.inr rfl, rfl, by simp [hll], by simp, by omega, by omega⟩, ?_⟩
          refine Tri.let [0, 1, 3] [] [2, 7, 8, 9] rfl trivial ?_
          refine Tri.go [] rfl ⟨by omega, trivial⟩ (again (bs.length - (i + 1)) (by omega) ⟨i + 1, rfl, by omega, ?_, keep_of rfl (by simp)⟩)
          rw [hs, ← rI_app]
          rfl
      · have : i = bs.length := by omega
        subst this
        exact Tri.go [.b 40 false] rfl ⟨decide_eq_false (by omega), trivial⟩ (outQ ⟨rfl, keep_of rfl rfl⟩)
    rintro ρ hl' ⟨rfl, hkk⟩
    refine Tri.keep _ hkk ?_
    refine Tri.tree (.f [2] hlay .nil) rfl ⟨⟨by simp [hbl], trivial⟩, by simp [leVs, leP, leE, leL, leC, rTab, hbl], RetQ.le [] [] rfl trivial (.refl _) .nil⟩
  · simp [Ask.right, Ask.same, Ask.only, Ask.rest, known, countsB, kMost, placeB] at h
    have hlay := lay_ok (t := (rTab 16).1) (a := at_) (ws := ws) (by omega) (by omega)
    refine ⟨ws, by simp [wsC], hfw, by omega, .inr ⟨(kTab 16).1, by simp [spans, h']; omega⟩, FnOk.tree t15 (.f [] hrr (.f [] ht (.f [] hlay .nil))) rfl rfl rfl rfl ?_⟩
    simp [leVs, leP, leE, leL, leC, leEs, rI]
  · simp [Ask.right, Ask.same, Ask.only, Ask.rest, known, countsB, kMost, placeB] at h
    have hlay := lay_ok (t := (rTab 22).1) (a := at_) (ws := [maskE was an og]) (by omega) (by simp)
    refine ⟨[maskE was an og], by simp [wsC], fun x hx => ?_, by simp, .inr ⟨_, by simp [spans, h']; rfl⟩, FnOk.tree t15 (.f [] hrr (.f [] ht (.f [] hlay .nil))) rfl rfl rfl rfl ?_⟩
    · simp at hx; subst hx; exact maskE_rng _ _ _
    · simp [leVs, leP, leE, leL, leC, leEs, rI, maskE]
  · simp [Ask.right, Ask.same, Ask.only, Ask.rest, known, countsB, kMost, placeB] at h
    have hlay := lay_ok (t := (rTab 23).1) (a := at_) (ws := ws) (by omega) (by omega)
    refine ⟨ws, by simp [wsC], hfw, by omega, .inr ⟨(kTab 23).1, by simp [spans, h']; omega⟩, FnOk.tree t15 (.f [] hrr (.f [] ht (.f [] hlay .nil))) rfl rfl rfl rfl ?_⟩
    simp [leVs, leP, leE, leL, leC, leEs, rI]
  · exact ⟨[], by simp [wsC], fun x hx => (nomatch hx), by simp, .inl rfl, FnOk.tree t15 (.f [] hrr (.f [] ht .nil)) rfl rfl rfl rfl (by simp [leVs, leP, leE, leL, leC, leEs, layL, rwC])⟩
theorem cells21_ok {a : Ask} (hf : a.Fit) (hr : a.right = true) {was : Int} (hw : 0 ≤ was ∧ was ≤ 65535) : ∃ ws, Wrd ws ∧ ws.length ≤ 2000 ∧ WrAt a ws ∧ FnOk Tryz.prog 15 [a.v, vI .u16 was] [] (vCl (layL (rTab a.fn).1 a.at_ ws ws.length)) [] := by
  obtain ⟨ws, _, h⟩ := cells21e_ok hf hr hw
  exact ⟨ws, h⟩
end Go.Proofs.YthddlkhfkncgpaaGreat
