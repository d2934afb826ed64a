/-
  Replies that tell what was read; Lay, Writes, what a request writes.
-/
import Derived.Test.YthddlkhfkncgpaaGreatE3
set_option maxRecDepth 100000
set_option maxHeartbeats 1000000
set_option linter.unusedVariables false
set_option linter.unusedSimpArgs false
namespace Go.Proofs.YthddlkhfkncgpaaGreat
open Go.RowKit

def toldT (fn : Int) (ws : List Int) : Tell := if fn = 1 ∨ fn = 2 then { fn := fn, bits := nzL ws } else { fn := fn, words := ws }
theorem told_ok {fn : Int} {ws : List Int} (hw : ws.length ≤ 1000000000) : FnOk Tryz.prog 130 [vI .i64 fn, vWd ws] [] (toldT fn ws).v [] := by
  by_cases h : fn = 1 ∨ fn = 2
  · refine FnOk.start t130 rfl rfl rfl ?_
    refine Tri.seq (Tri.go [] rfl trivial ?_)
    refine Tri.seq (Tri.go [] rfl trivial ?_)
    have e : toldT fn ws = { fn := fn, bits := nzL ws } := by rw [toldT, if_pos h]
    rw [e]
    refine Tri.mid (fun ρ hl => ((ws = [] ∧ hl = [.box tzC, .box (tB fn (.t .nil))]) ∨ (0 < ws.length ∧ hl = [.box tzC, .box (tB fn (.sl 2 0 ws.length)), .arr 1 (rF (nzL ws))])) ∧ keepE ρ [4, 5] = some [(4, vC (.ptr 0 0)), (5, vC (.ptr 1 0))]) ?_ ?_
    · refine Tri.seq (Tri.go [] rfl trivial ?_)
      refine Tri.block ?_
      refine Tri.mid (fun ρ hl => hl = [.box tzC, .box (tB fn (.t .nil))] ∧ keepE ρ [1, 4, 5, 14] = some [(1, vWd ws), (4, vC (.ptr 0 0)), (5, vC (.ptr 1 0)), (14, vB true)]) ?_ ?_
      · rcases h with rfl | rfl
        · exact Tri.go [] rfl trivial ⟨rfl, keep_of rfl rfl⟩
        · exact Tri.go [] rfl trivial ⟨rfl, keep_of rfl rfl⟩
      rintro ρ hl' ⟨rfl, hkk⟩
      refine Tri.keep _ hkk ?_
      refine Tri.cond rfl (fun _ => ?_) (fun h => by cases h)
      refine Tri.seq (Tri.go [] rfl trivial ?_)
      refine Tri.block ?_
      refine Tri.lp (fun q ρ hl => ∃ i, q = ws.length - i ∧ i ≤ ws.length ∧ ((i = 0 ∧ hl = [.box tzC, .box (tB fn (.t .nil))]) ∨ (0 < i ∧ hl = [.box tzC, .box (tB fn (.sl 2 0 i)), .arr 1 (rF (nzL (ws.take i)))])) ∧
        keepE ρ [4, 5, 17, 18, 19] = some [(4, vC (.ptr 0 0)), (5, vC (.ptr 1 0)), (17, vWd ws), (18, vI .i64 ws.length), (19, vI .i64 i)]) ws.length ⟨0, by omega, by omega, .inl ⟨rfl, rfl⟩, keep_of rfl rfl⟩ ?_
      rintro q ρ hl' ⟨i, rfl, hi, hh, hkk⟩
      refine Tri.keep _ hkk ?_
      by_cases h2 : i < ws.length
      · have hg := rI_get (k := .u16) h2
        have hll : (nzL (ws.take i)).length = i := by rw [nzL_len]; simp; omega
        have hts : nzL (ws.take (i + 1)) = nzL (ws.take i) ++ [ws.getD i 0 != 0] := by
          rw [← List.take_append_getElem h2, nzL, List.map_append]
          simp [nzL, List.getD_eq_getElem?_getD, h2]
        rcases hh with ⟨rfl, rfl⟩ | ⟨hp, rfl⟩
        · refine Tri.seq (Tri.go [] rfl trivial (Tri.seq (Tri.go [.b 20 true] rfl ⟨decide_eq_true (by omega), trivial⟩ ?_)))
          refine Tri.seq (Tri.block (Tri.seq (Tri.tree (.a (.at [.int .u16 (ws.getD 0 0)]) .nil) rfl ⟨⟨by omega, rfl, by simpa using hg⟩, ?_⟩)))
          refine Tri.tree .nil rfl ⟨⟨⟨rfl, by simp⟩, trivial⟩, ⟨.inr rfl, by simp, by simp, by simp⟩, ?_⟩
          refine Tri.go [] rfl ⟨by omega, trivial⟩ (again (ws.length - (0 + 1)) (by omega) ⟨0 + 1, rfl, by omega, .inr ⟨by omega, ?_⟩, keep_of rfl (by simp)⟩)
          rw [hts]
          simp [nzL, rF]
        · refine Tri.seq (Tri.go [] rfl trivial (Tri.seq (Tri.go [.b 20 true] rfl ⟨decide_eq_true (by omega), trivial⟩ ?_)))
          refine Tri.seq (Tri.block (Tri.seq (Tri.tree (.a (.at [.int .u16 (ws.getD i 0)]) .nil) rfl ⟨⟨by omega, rfl, by simpa using hg⟩, ?_⟩)))
          refine Tri.tree .nil rfl ⟨⟨⟨rfl, by simp⟩, trivial⟩, ⟨.inr rfl, rfl, by simp [hll], by simp, by omega, by omega⟩, ?_⟩
          refine Tri.let [0, 1, 3] [] [4, 5, 17, 18, 19] rfl trivial ?_
          refine Tri.go [] rfl ⟨by omega, trivial⟩ (again (ws.length - (i + 1)) (by omega) ⟨i + 1, rfl, by omega, .inr ⟨by omega, ?_⟩, keep_of rfl (by simp)⟩)
          rw [hts]
          simp [rF]
      · have : i = ws.length := by omega
        subst this
        rw [List.take_length] at hh
        rcases hh with ⟨hz, rfl⟩ | ⟨hp, rfl⟩
        · exact Tri.seq (Tri.go [] rfl trivial (Tri.seq (Tri.go [.b 20 false] rfl ⟨decide_eq_false (by omega), trivial⟩ (And.intro (.inl ⟨List.length_eq_zero_iff.1 hz, rfl⟩) (keep_of rfl rfl)))))
        · exact Tri.seq (Tri.go [] rfl trivial (Tri.seq (Tri.go [.b 20 false] rfl ⟨decide_eq_false (by omega), trivial⟩ (And.intro (.inr ⟨hp, rfl⟩) (keep_of rfl rfl)))))
    rintro ρ hl' ⟨hh, hkk⟩
    refine Tri.keep _ hkk ?_
    rcases hh with ⟨rfl, rfl⟩ | ⟨hp, rfl⟩
    · refine Tri.treeR (.a (.call [] [] .u []) .nil) rfl ?_
      simp [leP, leE, leL, leC, nzL]
      exact .nil
    · refine Tri.treeR (.a (.call [] [2] .u []) .nil) rfl ?_
      simp [leP, leE, leL, leC, nzL_len, List.take_of_length_le]
      exact .nil
  · have h1 : fn ≠ 1 := fun e => h (.inl e)
    have h2 : fn ≠ 2 := fun e => h (.inr e)
    have hc := cloneW_ok hw
    refine FnOk.tree t130 (.a (.b 14 false) (.a (.b 14 false) (.f [] hc .nil))) rfl rfl rfl rfl ?_
    rw [toldT, if_neg h]
    simp [leVs, leP, leE, leL, leC, h1, h2]
theorem shown_told (a : Ask) (ws : List Int) : shownT a ws = toldT a.fn ws := rfl
theorem mod_at {X Z : List (List D)} {z v : List D} {n : Nat} (hX : X.length = n) (hv : v.length = 3) (hz : z.length = 3) : (X ++ z :: Z).modify n (fun r => putAt r 0 v) = X ++ v :: Z := by
  subst hX
  induction X with
  | nil =>
    match v, hv, z, hz with
    | [a, b, c], _, [x, y, w], _ => rfl
  | cons r X ih => simpa using ih
theorem layP_ok {t a : Int} {ws : List Int} (ha : 0 ≤ a ∧ a ≤ 1000000000) (hw : ws.length ≤ 1000000) : FnOk Tryz.prog 52 [vK t a, vWd ws] [] (vCl (layL t a ws ws.length)) [] := by
  refine FnOk.start t52 rfl rfl rfl ?_
  refine Tri.seq (Tri.go [] rfl trivial ?_)
  refine Tri.seq (Tri.go [] rfl ⟨⟨by omega, by omega, by omega, by omega⟩, trivial⟩ ?_)
  have e0 : ((ws.length : Int)).toNat = ws.length := by omega
  refine Tri.mid (fun ρ hl => hl = [.box [.t (.int .i64 t), .t (.int .i64 a)], .arr 3 (rwC (layL t a ws ws.length))] ∧ keepE ρ [5] = some [(5, vC (.sl 1 0 ws.length))]) ?_ ?_
  · refine Tri.seq (Tri.go [] rfl trivial ?_)
    refine Tri.block ?_
    refine Tri.lp (fun q ρ hl => ∃ i, q = ws.length - i ∧ i ≤ ws.length ∧ hl = [.box [.t (.int .i64 t), .t (.int .i64 a)], .arr 3 (rwC (layL t a ws i) ++ List.replicate (ws.length - i) [.int .i64 0, .int .i64 0, .int .u16 0])] ∧ keepE ρ [2, 5, 11, 12, 13] = some [(2, vC (.ptr 0 0)), (5, vC (.sl 1 0 ws.length)), (11, vWd ws), (12, vI .i64 ws.length), (13, vI .i64 i)]) ws.length ⟨0, by omega, by omega, by simp [layL, rwC], keep_of rfl (by simp)⟩ ?_
    rintro q ρ hl' ⟨i, rfl, hi, rfl, hkk⟩
    refine Tri.keep _ hkk ?_
    by_cases h : i < ws.length
    · have hg := rI_get (k := .u16) h
      have hll : (rwC (layL t a ws i)).length = i := by simp [layL_len]
      have hrep : List.replicate (ws.length - i) [D.int .i64 0, D.int .i64 0, D.int .u16 0] = [D.int .i64 0, D.int .i64 0, D.int .u16 0] :: List.replicate (ws.length - (i + 1)) [D.int .i64 0, D.int .i64 0, D.int .u16 0] := by
        rw [show ws.length - i = (ws.length - (i + 1)) + 1 by omega, List.replicate_succ]
      refine Tri.seq (Tri.go [] rfl trivial (Tri.seq (Tri.go [.b 14 true] rfl ⟨decide_eq_true (by omega), trivial⟩ ?_)))
      refine Tri.seq (Tri.block (Tri.seq (Tri.tree (.a (.at [.int .u16 (ws.getD i 0)]) .nil) rfl ⟨⟨by omega, rfl, by simpa using hg⟩, ?_⟩)))
      refine Tri.tree .nil rfl ⟨by omega, ⟨by omega, by omega, rfl⟩, ⟨rfl, by simp [hll]; omega, by omega⟩, ?_⟩
      refine Tri.go [] rfl ⟨by omega, trivial⟩ (again (ws.length - (i + 1)) (by omega) ⟨i + 1, rfl, by omega, ?_, keep_of rfl (by simp)⟩)
      rw [hrep]
      have e1 : (0 + ((i : Int)).toNat) = i := by omega
      rw [e1, mod_at hll (by rfl) (by rfl), layL_succ, ← rwC_app]
      simp [rwC]
    · have : i = ws.length := by omega
      subst this
      exact Tri.seq (Tri.go [] rfl trivial (Tri.seq (Tri.go [.b 14 false] rfl ⟨decide_eq_false (by omega), trivial⟩ (And.intro (by simp) (keep_of rfl rfl)))))
  rintro ρ hl' ⟨rfl, hkk⟩
  refine Tri.keep _ hkk ?_
  refine Tri.treeR (.a (.call [] [1] .u []) .nil) rfl ?_
  simp [leP, leE, leC, layL_len, List.take_of_length_le]
  exact .nil
def writesB (fn : Int) : Bool := fn == 5 || fn == 6 || fn == 15 || fn == 16 || fn == 22 || fn == 23
theorem writes_ok {fn : Int} (hk : known fn = true) : FnOk Tryz.prog 50 [vI .i64 fn] [] (vB (writesB fn)) [] := by
  have hd : ∃ b, FnOk Tryz.prog 115 [vI .i64 fn] [] (.tup [.c (.t (.bool b)), .c (.t (.bool (writesB fn)))]) [] := by
    have hfn := of_decide_eq_true hk
    rcases hfn with rfl | rfl | rfl | rfl | rfl | rfl | rfl | rfl | rfl | rfl | rfl
    iterate 4 exact ⟨true, FnOk.tree t115 .nil rfl rfl rfl rfl (by simp [leP, leE, leEs, leC, writesB])⟩
    iterate 4 exact ⟨false, FnOk.tree t115 .nil rfl rfl rfl rfl (by simp [leP, leE, leEs, leC, writesB])⟩
    iterate 2 exact ⟨true, FnOk.tree t115 .nil rfl rfl rfl rfl (by simp [leP, leE, leEs, leC, writesB])⟩
    exact ⟨false, FnOk.tree t115 .nil rfl rfl rfl rfl (by simp [leP, leE, leEs, leC, writesB])⟩
  obtain ⟨b, hd⟩ := hd
  exact FnOk.tree t50 (.f [] hd .nil) rfl rfl rfl rfl (by simp [leVs, leP, leE, leC])
theorem mask_same (was an og : Int) : IntKind.u16.wrap (BitVec.ofInt IntKind.u16.bits (IntKind.u16.wrap (BitVec.ofInt IntKind.u16.bits was &&& BitVec.ofInt IntKind.u16.bits an).toNat) ||| BitVec.ofInt IntKind.u16.bits (IntKind.u16.wrap (BitVec.ofInt IntKind.u16.bits og &&& ~~~ BitVec.ofInt IntKind.u16.bits an).toNat)).toNat = maskE was an og := by
  have h : BitVec.ofInt IntKind.u16.bits (IntKind.u16.wrap (65535 - an)) = ~~~ BitVec.ofInt IntKind.u16.bits an := by
    rw [wu16]
    show BitVec.ofInt 16 ((65535 - an) % 65536) = ~~~ BitVec.ofInt 16 an
    apply BitVec.eq_of_toNat_eq
    rw [BitVec.toNat_not, BitVec.toNat_ofInt, BitVec.toNat_ofInt]
    show ((65535 - an) % 65536 % 65536).toNat = 65536 - 1 - (an % 65536).toNat
    omega
  unfold maskE
  rw [h]
theorem wsC_ok {a : Ask} (hf : a.Fit) (hr : a.right = true) {was : Int} (hw : 0 ≤ was ∧ was ≤ 65535) : Wrd (wsC a was) ∧ (wsC a was).length ≤ 2000 ∧ WrAt a (wsC a was) := by
  obtain ⟨ws, rfl, h1, h2, h3, _⟩ := cells21e_ok hf hr hw
  exact ⟨h1, h2, h3⟩
/-- The cells that a request writes. -/
def cellsT (a : Ask) (was : Int) : List Cel := if a.right then layL (kTab a.fn).1 a.at_ (wsC a was) (wsC a was).length else []
theorem eCells_ok {a : Ask} (hf : a.Fit) {was : Int} : FnOk Tryz.prog 13 [a.v, vI .u16 was] [] (vCl (cellsT a was)) [] := by
  have hr := askRight_ok hf
  unfold cellsT
  cases h : a.right with
  | false =>
    rw [h] at hr
    exact FnOk.tree t13 (.f [] hr (.a (.b 14 true) .nil)) rfl rfl rfl rfl (by simp [leVs, leP, leE, leL, leC, rwC])
  | true =>
  rw [if_pos rfl]
  have hk := right_known h
  have hwr := writes_ok hk
  rw [h] at hr
  have h' := h
  have ht := kTable_ok a.fn
  have hms := mask_same was a.and_ a.or_
  have hfn := of_decide_eq_true hk
  clear hk
  obtain ⟨fn, at_, n, vl, an, og, bs, ws, ra, rn, cd, ob⟩ := a
  simp only at hfn ht hms hwr
  rcases hfn with rfl | rfl | rfl | rfl | rfl | rfl | rfl | rfl | rfl | rfl | rfl
  iterate 4
    · exact FnOk.tree t13 (.f [] hr (.a (.b 14 false) (.f [] hwr .nil))) rfl rfl rfl rfl (by simp [leVs, leP, leE, leL, leC, wsC, layL, rwC])
  · simp [Ask.right, Ask.same, Ask.only, Ask.rest, known, countsB, kMost, placeB] at h
    have hlay := layP_ok (t := (kTab 5).1) (a := at_) (ws := [vl]) (by omega) (by simp)
    exact FnOk.tree t13 (.f [] hr (.a (.b 14 false) (.f [] hwr (.f [] ht (.f [] hlay .nil))))) rfl rfl rfl rfl (by simp [leVs, leP, leE, leL, leC, leEs, rI, wsC])
  · simp [Ask.right, Ask.same, Ask.only, Ask.rest, known, countsB, kMost, placeB] at h
    have hlay := layP_ok (t := (kTab 6).1) (a := at_) (ws := [vl]) (by omega) (by simp)
    exact FnOk.tree t13 (.f [] hr (.a (.b 14 false) (.f [] hwr (.f [] ht (.f [] hlay .nil))))) rfl rfl rfl rfl (by simp [leVs, leP, leE, leL, leC, leEs, rI, wsC])
  · simp [Ask.right, Ask.same, Ask.only, Ask.rest, known, countsB, kMost, placeB] at h
    have hbl := oneW_len (bs := bs) (Nat.le_refl _)
    have hlay := layP_ok (t := (kTab 15).1) (a := at_) (ws := oneW bs bs.length) (by omega) (by rw [hbl]; omega)
    have e : wsC ⟨15, at_, n, vl, an, og, bs, ws, ra, rn, cd, ob⟩ was = oneW bs bs.length := by simp [wsC]
    rw [e]
    refine FnOk.start t13 rfl rfl rfl ?_
    refine Tri.seq (Tri.go [] rfl trivial ?_)
    refine Tri.seq (Tri.tree (.f [] hr (.a (.b 14 false) (.f [] hwr .nil))) rfl ⟨trivial, by simp [leVs, leP, leE, leL, leC], rfl, trivial, by simp [leVs, leP, leE, leL, leC], ?_⟩)
    refine Tri.seq (Tri.go [] rfl trivial ?_)
    refine Tri.mid (fun ρ hl => hl = [.box [.t (.int .i64 15), .t (.int .i64 at_), .t (.int .i64 n), .t (.int .u16 vl), .t (.int .u16 an), .t (.int .u16 og), .t (lF bs), .t (lI .u16 ws), .t (.int .i64 ra), .t (.int .i64 rn), .t (.int .i64 cd), .t (.int .i64 ob)], .arr 1 (rI .u16 (oneW bs bs.length))] ∧ keepE ρ [2, 5] = some [(2, vC (.ptr 0 0)), (5, vC (.sl 1 0 bs.length))]) ?_ ?_
    · refine Tri.seq (Tri.go [] rfl trivial ?_)
      refine Tri.block ?_
      refine Tri.seq (Tri.go [] rfl trivial ?_)
      refine Tri.cond rfl (fun h => by simp at h) (fun _ => ?_)
      refine Tri.seq (Tri.go [] rfl trivial ?_)
      refine Tri.cond rfl (fun h => by simp at h) (fun _ => ?_)
      refine Tri.seq (Tri.go [] rfl trivial ?_)
      refine Tri.cond rfl (fun _ => ?_) (fun h => by simp at h)
      refine Tri.seq (Tri.go [] rfl trivial ?_)
      refine Tri.block ?_
      refine Tri.own 5 1 (by omega) rfl ?_
      refine Tri.lp (fun q ρ hl => ∃ i, q = bs.length - i ∧ i ≤ bs.length ∧ hl = [.box [.t (.int .i64 15), .t (.int .i64 at_), .t (.int .i64 n), .t (.int .u16 vl), .t (.int .u16 an), .t (.int .u16 og), .t (lF bs), .t (lI .u16 ws), .t (.int .i64 ra), .t (.int .i64 rn), .t (.int .i64 cd), .t (.int .i64 ob)], .arr 1 (rI .u16 (oneW bs i))] ∧ keepE ρ [2, 5, 46, 47, 48] = some [(2, vC (.ptr 0 0)), (5, vC (.sl 1 0 i)), (46, vFs bs), (47, vI .i64 bs.length), (48, vI .i64 i)]) bs.length ⟨0, by omega, by omega, rfl, keep_of rfl rfl⟩ ?_
      rintro q ρ hl' ⟨i, rfl, hi, rfl, hkk⟩
      refine Tri.keep _ hkk ?_
      by_cases h2 : i < bs.length
      · have hg := rF_get h2
        have hll := oneW_len (bs := bs) (n := i) (by omega)
        have hs := oneW_succ h2
        generalize bs.getD i false = b at *
        refine Tri.seq (Tri.go [] rfl trivial (Tri.seq (Tri.go [.b 49 true] rfl ⟨decide_eq_true (by omega), trivial⟩ ?_)))
        rcases b with _ | _
        · refine Tri.seq (Tri.block (Tri.seq (Tri.tree (.a (.at [.bool false]) .nil) rfl ⟨⟨by omega, rfl, by simpa using hg⟩, ?_⟩)))
          refine Tri.seq (Tri.go [] rfl trivial ?_)
          refine Tri.seq (Tri.go [] rfl trivial ?_)
          refine Tri.tree .nil rfl ⟨⟨⟨rfl, by simp⟩, trivial⟩, ⟨.inr rfl, rfl, by simp [hll], by simp, by omega, by omega⟩, ?_⟩
          refine Tri.let [0, 2] [] [2, 5, 46, 47, 48] rfl trivial ?_
          refine Tri.go [] rfl ⟨by omega, trivial⟩ (again (bs.length - (i + 1)) (by omega) ⟨i + 1, rfl, by omega, ?_, keep_of rfl (by simp)⟩)
          rw [hs, ← rI_app]
          rfl
        · refine Tri.seq (Tri.block (Tri.seq (Tri.tree (.a (.at [.bool true]) .nil) rfl ⟨⟨by omega, rfl, by simpa using hg⟩, ?_⟩)))
          refine Tri.seq (Tri.go [] rfl trivial ?_)
          refine Tri.seq (Tri.go [] rfl trivial ?_)
          refine Tri.tree .nil rfl ⟨⟨⟨rfl, by simp⟩, trivial⟩, ⟨.inr rfl, rfl, by simp [hll], by simp, by omega, by omega⟩, ?_⟩
          refine Tri.let [0, 2] [] [2, 5, 46, 47, 48] rfl trivial ?_
          refine Tri.go [] rfl ⟨by omega, trivial⟩ (again (bs.length - (i + 1)) (by omega) ⟨i + 1, rfl, by omega, ?_, keep_of rfl (by simp)⟩)
          rw [hs, ← rI_app]
          rfl
      · have : i = bs.length := by omega
        subst this
        exact Tri.seq (Tri.go [] rfl trivial (Tri.seq (Tri.go [.b 49 false] rfl ⟨decide_eq_false (by omega), trivial⟩ (And.intro rfl (keep_of rfl rfl)))))
    rintro ρ hl' ⟨rfl, hkk⟩
    refine Tri.keep _ hkk ?_
    refine Tri.seq (Tri.tree (.f [] ht .nil) rfl ⟨trivial, by simp [leVs, leP, leE, leL, leC], ?_⟩)
    exact Tri.treeR (.f [1] hlay .nil) rfl ⟨⟨by simp [hbl], trivial⟩, by simp [leVs, leP, leE, leL, leC, kTab, hbl], by simp [leP, leE, leL, leC]⟩
  · simp [Ask.right, Ask.same, Ask.only, Ask.rest, known, countsB, kMost, placeB] at h
    have hlay := layP_ok (t := (kTab 16).1) (a := at_) (ws := ws) (by omega) (by omega)
    exact FnOk.tree t13 (.f [] hr (.a (.b 14 false) (.f [] hwr (.f [] ht (.f [] hlay .nil))))) rfl rfl rfl rfl (by simp [leVs, leP, leE, leL, leC, leEs, rI, wsC])
  · simp [Ask.right, Ask.same, Ask.only, Ask.rest, known, countsB, kMost, placeB] at h
    have hlay := layP_ok (t := (kTab 22).1) (a := at_) (ws := [maskE was an og]) (by omega) (by simp)
    refine FnOk.tree t13 (.f [] hr (.a (.b 14 false) (.f [] hwr (.f [] ht (.f [] hlay .nil))))) rfl rfl rfl rfl ?_
    simp only [hms]
    simp [leVs, leP, leE, leL, leC, leEs, rI, wsC]
  · simp [Ask.right, Ask.same, Ask.only, Ask.rest, known, countsB, kMost, placeB] at h
    have hlay := layP_ok (t := (kTab 23).1) (a := at_) (ws := ws) (by omega) (by omega)
    exact FnOk.tree t13 (.f [] hr (.a (.b 14 false) (.f [] hwr (.f [] ht (.f [] hlay .nil))))) rfl rfl rfl rfl (by simp [leVs, leP, leE, leL, leC, leEs, rI, wsC])
  · exact FnOk.tree t13 (.f [] hr (.a (.b 14 false) (.f [] hwr .nil))) rfl rfl rfl rfl (by simp [leVs, leP, leE, leL, leC, wsC, layL, rwC])
end Go.Proofs.YthddlkhfkncgpaaGreat
