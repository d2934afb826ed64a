/-
  Which requests may be: the program's Right.
-/
import Derived.Test.YthddlkhfkncgpaaGreatM6
set_option maxRecDepth 100000
set_option maxHeartbeats 4000000
set_option linter.unusedVariables false
set_option linter.unusedSimpArgs false
namespace Go.Proofs.YthddlkhfkncgpaaGreat
open Go.RowKit

theorem known_tab (fn : Int) : known fn = ((kTab fn).2 || decide (fn = 43)) := by
  rw [Bool.eq_iff_iff]
  unfold kTab known
  split
  · simp; omega
  · split
    · simp; omega
    · split
      · simp; omega
      · split
        · simp; omega
        · simp; omega
theorem kKnown_ok (fn : Int) : FnOk Tryz.prog 109 [vI .i64 fn] [] (vB (known fn)) [] := by
  have ht := kTable_ok fn
  rw [known_tab]
  cases h : (kTab fn).2 with
  | true =>
    rw [h] at ht
    exact FnOk.go t109 [.lend [] (.tup [.c (.t (.int .i64 (kTab fn).1)), .c (.t (.bool true))])] [] [] rfl rfl rfl rfl rfl rfl rfl ⟨trivial, ht, trivial⟩ trivial (.refl _)
  | false =>
    rw [h] at ht
    exact FnOk.go t109 [.lend [] (.tup [.c (.t (.int .i64 (kTab fn).1)), .c (.t (.bool false))])] [] [] rfl rfl rfl rfl rfl rfl rfl ⟨trivial, ht, trivial⟩ trivial (.vB (by simp))
/-- Has a request no other numbers than those of its function? -/
def Ask.same (a : Ask) : Bool := (a.at_ == a.only.at_) && ((a.n == a.only.n) && ((a.val == a.only.val) && ((a.and_ == a.only.and_) && ((a.or_ == a.only.or_) && ((a.ra == a.only.ra) && ((a.rn == a.only.rn) && ((a.code == a.only.code) && ((a.obj == a.only.obj) && (((a.bits.length : Int) == a.only.bits.length) && (((a.words.length : Int) == a.only.words.length) && true))))))))))
/-- .. and what its function asks for. -/
def Ask.rest (a : Ask) : Bool :=
  if a.fn = 1 ∨ a.fn = 2 ∨ a.fn = 3 ∨ a.fn = 4 then countsB a.n (kMost a.fn).1
  else if a.fn = 5 then decide (a.val ≤ 1)
  else if a.fn = 15 then countsB a.n 1968 && decide ((a.bits.length : Int) = a.n)
  else if a.fn = 23 then countsB a.rn 125 && (countsB a.n 121 && decide ((a.words.length : Int) = a.n))
  else if a.fn = 16 then countsB a.n 123 && decide ((a.words.length : Int) = a.n)
  else if a.fn = 43 then countsB a.code 4 && decide (0 ≤ a.obj ∧ a.obj ≤ 255)
  else true
def Ask.right (a : Ask) : Bool := known a.fn && (a.same && (placeB a.at_ && (placeB a.ra && a.rest)))
theorem only_fit {a : Ask} (h : a.Fit) : a.only.Fit := by
  obtain ⟨h1, h2, h3, h4, h5, h6, h7, h8, h9, h10, h11, h12, h13⟩ := h
  have z : b64 0 := by omega
  have z2 : (0 : Int) ≤ 0 ∧ (0 : Int) ≤ 65535 := by omega
  have w : Wrd [] := fun x hx => (nomatch hx)
  unfold Ask.only
  split
  · exact ⟨by simp [b64], h2, h3, z2, z2, z2, by simp, h8, h9, h10, h11, z, z⟩
  split
  · exact ⟨by simp [b64], h2, h3, z2, z2, z2, by simp, h8, h9, z, z, z, z⟩
  split
  · exact ⟨h1, h2, h3, z2, z2, z2, by simp, by simp, w, z, z, z, z⟩
  split
  · exact ⟨by simp [b64], h2, h3, z2, z2, z2, h7, by simp, w, z, z, z, z⟩
  split
  · exact ⟨h1, h2, z, h4, z2, z2, by simp, by simp, w, z, z, z, z⟩
  split
  · exact ⟨by simp [b64], h2, z, z2, h5, h6, by simp, by simp, w, z, z, z, z⟩
  split
  · exact ⟨by simp [b64], z, z, z2, z2, z2, by simp, by simp, w, z, z, h12, h13⟩
  · exact ⟨h1, z, z, z2, z2, z2, by simp, by simp, w, z, z, z, z⟩
theorem askRight_ok {a : Ask} (hf : a.Fit) : FnOk Tryz.prog 49 [a.v] [] (vB a.right) [] := by
  have hk := kKnown_ok a.fn
  have hn := numbers_ok hf
  have ho := only_ok a
  have hno := numbers_ok (only_fit hf)
  have ha := address_ok a.at_
  have hr := address_ok a.ra
  have hm := kMost_ok a.fn
  unfold Ask.right
  cases hK : known a.fn with
  | false =>
    rw [hK] at hk
    exact FnOk.go t49 [.lend [] (vB false)] [] [] rfl rfl rfl rfl rfl rfl rfl ⟨trivial, hk, trivial⟩ trivial (.refl _)
  | true =>
    rw [hK] at hk
    cases hS : a.same with
    | false =>
      refine FnOk.go t49 [.lend [] (vB true), .lend [] (.e (.agg a.nums)), .call [] [] a.only.v [], .lend [] (.e (.agg a.only.nums)), .b 17 true] [] [] rfl rfl rfl rfl rfl rfl rfl ?_ trivial (.refl _)
      simp only [true_and, and_true]
      exact ⟨hk, hn, ho, hno, by show (!a.same) = true; rw [hS]; rfl⟩
    | true =>
      cases hA : placeB a.at_ with
      | false =>
        rw [hA] at ha
        refine FnOk.go t49 [.lend [] (vB true), .lend [] (.e (.agg a.nums)), .call [] [] a.only.v [], .lend [] (.e (.agg a.only.nums)), .b 17 false, .lend [] (vB false)] [] [] rfl rfl rfl rfl rfl rfl rfl ?_ trivial (.refl _)
        simp only [true_and, and_true]
        exact ⟨hk, hn, ho, hno, by show (!a.same) = false; rw [hS]; rfl, ha⟩
      | true =>
        rw [hA] at ha
        cases hR : placeB a.ra with
        | false =>
          rw [hR] at hr
          refine FnOk.go t49 [.lend [] (vB true), .lend [] (.e (.agg a.nums)), .call [] [] a.only.v [], .lend [] (.e (.agg a.only.nums)), .b 17 false, .lend [] (vB true), .lend [] (vB false)] [] [] rfl rfl rfl rfl rfl rfl rfl ?_ trivial (.refl _)
          simp only [true_and, and_true]
          exact ⟨hk, hn, ho, hno, by show (!a.same) = false; rw [hS]; rfl, ha, hr⟩
        | true =>
          rw [hR] at hr
          have hS' : (!a.same) = false := by rw [hS]; rfl
          have hfn := of_decide_eq_true hK
          simp only [Bool.true_and]
          obtain ⟨fn, at_, n, vl, an, og, bs, ws, ra, rn, cd, ob⟩ := a
          simp only at hfn
          have h12 := hf.n
          rcases hfn with rfl | rfl | rfl | rfl | rfl | rfl | rfl | rfl | rfl | rfl | rfl
          · refine FnOk.go t49 [.lend [] (vB true), .lend [] (.e (.agg (Ask.mk 1 at_ n vl an og bs ws ra rn cd ob).nums)), .call [] [] (Ask.mk 1 at_ n vl an og bs ws ra rn cd ob).only.v [], .lend [] (.e (.agg (Ask.mk 1 at_ n vl an og bs ws ra rn cd ob).only.nums)), .b 17 false, .lend [] (vB true), .lend [] (vB true), .lend [] (.tup [.c (.t (.int .i64 2000)), .c (.t (.int .i64 0))]), .lend [] (vB (countsB n 2000))] [] [] rfl rfl rfl rfl rfl rfl rfl ?_ trivial (.of (by simp [Ask.rest, kMost]))
            simp only [true_and, and_true]
            exact ⟨hk, hn, ho, hno, hS', ha, hr, hm, counts_ok _ _⟩
          · refine FnOk.go t49 [.lend [] (vB true), .lend [] (.e (.agg (Ask.mk 2 at_ n vl an og bs ws ra rn cd ob).nums)), .call [] [] (Ask.mk 2 at_ n vl an og bs ws ra rn cd ob).only.v [], .lend [] (.e (.agg (Ask.mk 2 at_ n vl an og bs ws ra rn cd ob).only.nums)), .b 17 false, .lend [] (vB true), .lend [] (vB true), .lend [] (.tup [.c (.t (.int .i64 2000)), .c (.t (.int .i64 0))]), .lend [] (vB (countsB n 2000))] [] [] rfl rfl rfl rfl rfl rfl rfl ?_ trivial (.of (by simp [Ask.rest, kMost]))
            simp only [true_and, and_true]
            exact ⟨hk, hn, ho, hno, hS', ha, hr, hm, counts_ok _ _⟩
          · refine FnOk.go t49 [.lend [] (vB true), .lend [] (.e (.agg (Ask.mk 3 at_ n vl an og bs ws ra rn cd ob).nums)), .call [] [] (Ask.mk 3 at_ n vl an og bs ws ra rn cd ob).only.v [], .lend [] (.e (.agg (Ask.mk 3 at_ n vl an og bs ws ra rn cd ob).only.nums)), .b 17 false, .lend [] (vB true), .lend [] (vB true), .lend [] (.tup [.c (.t (.int .i64 125)), .c (.t (.int .i64 0))]), .lend [] (vB (countsB n 125))] [] [] rfl rfl rfl rfl rfl rfl rfl ?_ trivial (.of (by simp [Ask.rest, kMost]))
            simp only [true_and, and_true]
            exact ⟨hk, hn, ho, hno, hS', ha, hr, hm, counts_ok _ _⟩
          · refine FnOk.go t49 [.lend [] (vB true), .lend [] (.e (.agg (Ask.mk 4 at_ n vl an og bs ws ra rn cd ob).nums)), .call [] [] (Ask.mk 4 at_ n vl an og bs ws ra rn cd ob).only.v [], .lend [] (.e (.agg (Ask.mk 4 at_ n vl an og bs ws ra rn cd ob).only.nums)), .b 17 false, .lend [] (vB true), .lend [] (vB true), .lend [] (.tup [.c (.t (.int .i64 125)), .c (.t (.int .i64 0))]), .lend [] (vB (countsB n 125))] [] [] rfl rfl rfl rfl rfl rfl rfl ?_ trivial (.of (by simp [Ask.rest, kMost]))
            simp only [true_and, and_true]
            exact ⟨hk, hn, ho, hno, hS', ha, hr, hm, counts_ok _ _⟩
          · refine FnOk.go t49 [.lend [] (vB true), .lend [] (.e (.agg (Ask.mk 5 at_ n vl an og bs ws ra rn cd ob).nums)), .call [] [] (Ask.mk 5 at_ n vl an og bs ws ra rn cd ob).only.v [], .lend [] (.e (.agg (Ask.mk 5 at_ n vl an og bs ws ra rn cd ob).only.nums)), .b 17 false, .lend [] (vB true), .lend [] (vB true), .lend [] (.tup [.c (.t (.int .i64 0)), .c (.t (.int .i64 1))])] [] [] rfl rfl rfl rfl rfl rfl rfl ?_ trivial (.vB (by simp [Ask.rest]))
            simp only [true_and, and_true]
            exact ⟨hk, hn, ho, hno, hS', ha, hr, hm⟩
          · refine FnOk.go t49 [.lend [] (vB true), .lend [] (.e (.agg (Ask.mk 6 at_ n vl an og bs ws ra rn cd ob).nums)), .call [] [] (Ask.mk 6 at_ n vl an og bs ws ra rn cd ob).only.v [], .lend [] (.e (.agg (Ask.mk 6 at_ n vl an og bs ws ra rn cd ob).only.nums)), .b 17 false, .lend [] (vB true), .lend [] (vB true), .lend [] (.tup [.c (.t (.int .i64 0)), .c (.t (.int .i64 1))])] [] [] rfl rfl rfl rfl rfl rfl rfl ?_ trivial (.vB (by simp [Ask.rest]))
            simp only [true_and, and_true]
            exact ⟨hk, hn, ho, hno, hS', ha, hr, hm⟩
          · have hc := counts_ok n 1968
            cases hC : countsB n 1968 with
            | true =>
              rw [hC] at hc
              · refine FnOk.go t49 [.lend [] (vB true), .lend [] (.e (.agg (Ask.mk 15 at_ n vl an og bs ws ra rn cd ob).nums)), .call [] [] (Ask.mk 15 at_ n vl an og bs ws ra rn cd ob).only.v [], .lend [] (.e (.agg (Ask.mk 15 at_ n vl an og bs ws ra rn cd ob).only.nums)), .b 17 false, .lend [] (vB true), .lend [] (vB true), .lend [] (.tup [.c (.t (.int .i64 0)), .c (.t (.int .i64 1968))]), .lend [] (vB true)] [] [] rfl rfl rfl rfl rfl rfl rfl ?_ trivial (.vB (by simp [Ask.rest, hC]))
                simp only [true_and, and_true]
                exact ⟨hk, hn, ho, hno, hS', ha, hr, hm, hc⟩
            | false =>
              rw [hC] at hc
              · refine FnOk.go t49 [.lend [] (vB true), .lend [] (.e (.agg (Ask.mk 15 at_ n vl an og bs ws ra rn cd ob).nums)), .call [] [] (Ask.mk 15 at_ n vl an og bs ws ra rn cd ob).only.v [], .lend [] (.e (.agg (Ask.mk 15 at_ n vl an og bs ws ra rn cd ob).only.nums)), .b 17 false, .lend [] (vB true), .lend [] (vB true), .lend [] (.tup [.c (.t (.int .i64 0)), .c (.t (.int .i64 1968))]), .lend [] (vB false)] [] [] rfl rfl rfl rfl rfl rfl rfl ?_ trivial (.vB (by simp [Ask.rest, hC]))
                simp only [true_and, and_true]
                exact ⟨hk, hn, ho, hno, hS', ha, hr, hm, hc⟩
          · have hc := counts_ok n 123
            cases hC : countsB n 123 with
            | true =>
              rw [hC] at hc
              · refine FnOk.go t49 [.lend [] (vB true), .lend [] (.e (.agg (Ask.mk 16 at_ n vl an og bs ws ra rn cd ob).nums)), .call [] [] (Ask.mk 16 at_ n vl an og bs ws ra rn cd ob).only.v [], .lend [] (.e (.agg (Ask.mk 16 at_ n vl an og bs ws ra rn cd ob).only.nums)), .b 17 false, .lend [] (vB true), .lend [] (vB true), .lend [] (.tup [.c (.t (.int .i64 0)), .c (.t (.int .i64 123))]), .lend [] (vB true)] [] [] rfl rfl rfl rfl rfl rfl rfl ?_ trivial (.vB (by simp [Ask.rest, hC]))
                simp only [true_and, and_true]
                exact ⟨hk, hn, ho, hno, hS', ha, hr, hm, hc⟩
            | false =>
              rw [hC] at hc
              · refine FnOk.go t49 [.lend [] (vB true), .lend [] (.e (.agg (Ask.mk 16 at_ n vl an og bs ws ra rn cd ob).nums)), .call [] [] (Ask.mk 16 at_ n vl an og bs ws ra rn cd ob).only.v [], .lend [] (.e (.agg (Ask.mk 16 at_ n vl an og bs ws ra rn cd ob).only.nums)), .b 17 false, .lend [] (vB true), .lend [] (vB true), .lend [] (.tup [.c (.t (.int .i64 0)), .c (.t (.int .i64 123))]), .lend [] (vB false)] [] [] rfl rfl rfl rfl rfl rfl rfl ?_ trivial (.vB (by simp [Ask.rest, hC]))
                simp only [true_and, and_true]
                exact ⟨hk, hn, ho, hno, hS', ha, hr, hm, hc⟩
          · refine FnOk.go t49 [.lend [] (vB true), .lend [] (.e (.agg (Ask.mk 22 at_ n vl an og bs ws ra rn cd ob).nums)), .call [] [] (Ask.mk 22 at_ n vl an og bs ws ra rn cd ob).only.v [], .lend [] (.e (.agg (Ask.mk 22 at_ n vl an og bs ws ra rn cd ob).only.nums)), .b 17 false, .lend [] (vB true), .lend [] (vB true), .lend [] (.tup [.c (.t (.int .i64 0)), .c (.t (.int .i64 1))])] [] [] rfl rfl rfl rfl rfl rfl rfl ?_ trivial (.vB (by simp [Ask.rest]))
            simp only [true_and, and_true]
            exact ⟨hk, hn, ho, hno, hS', ha, hr, hm⟩
          · have hc := counts_ok rn 125
            have hd := counts_ok n 121
            cases hC : countsB rn 125 with
            | false =>
              rw [hC] at hc
              · refine FnOk.go t49 [.lend [] (vB true), .lend [] (.e (.agg (Ask.mk 23 at_ n vl an og bs ws ra rn cd ob).nums)), .call [] [] (Ask.mk 23 at_ n vl an og bs ws ra rn cd ob).only.v [], .lend [] (.e (.agg (Ask.mk 23 at_ n vl an og bs ws ra rn cd ob).only.nums)), .b 17 false, .lend [] (vB true), .lend [] (vB true), .lend [] (.tup [.c (.t (.int .i64 125)), .c (.t (.int .i64 121))]), .lend [] (vB false)] [] [] rfl rfl rfl rfl rfl rfl rfl ?_ trivial (.vB (by simp [Ask.rest, hC]))
                simp only [true_and, and_true]
                exact ⟨hk, hn, ho, hno, hS', ha, hr, hm, hc⟩
            | true =>
              rw [hC] at hc
              cases hD : countsB n 121 with
              | true =>
                rw [hD] at hd
                · refine FnOk.go t49 [.lend [] (vB true), .lend [] (.e (.agg (Ask.mk 23 at_ n vl an og bs ws ra rn cd ob).nums)), .call [] [] (Ask.mk 23 at_ n vl an og bs ws ra rn cd ob).only.v [], .lend [] (.e (.agg (Ask.mk 23 at_ n vl an og bs ws ra rn cd ob).only.nums)), .b 17 false, .lend [] (vB true), .lend [] (vB true), .lend [] (.tup [.c (.t (.int .i64 125)), .c (.t (.int .i64 121))]), .lend [] (vB true), .lend [] (vB true)] [] [] rfl rfl rfl rfl rfl rfl rfl ?_ trivial (.vB (by simp [Ask.rest, hC, hD]))
                  simp only [true_and, and_true]
                  exact ⟨hk, hn, ho, hno, hS', ha, hr, hm, hc, hd⟩
              | false =>
                rw [hD] at hd
                · refine FnOk.go t49 [.lend [] (vB true), .lend [] (.e (.agg (Ask.mk 23 at_ n vl an og bs ws ra rn cd ob).nums)), .call [] [] (Ask.mk 23 at_ n vl an og bs ws ra rn cd ob).only.v [], .lend [] (.e (.agg (Ask.mk 23 at_ n vl an og bs ws ra rn cd ob).only.nums)), .b 17 false, .lend [] (vB true), .lend [] (vB true), .lend [] (.tup [.c (.t (.int .i64 125)), .c (.t (.int .i64 121))]), .lend [] (vB true), .lend [] (vB false)] [] [] rfl rfl rfl rfl rfl rfl rfl ?_ trivial (.vB (by simp [Ask.rest, hC, hD]))
                  simp only [true_and, and_true]
                  exact ⟨hk, hn, ho, hno, hS', ha, hr, hm, hc, hd⟩
          · have hc := counts_ok cd 4
            cases hC : countsB cd 4 with
            | false =>
              rw [hC] at hc
              · refine FnOk.go t49 [.lend [] (vB true), .lend [] (.e (.agg (Ask.mk 43 at_ n vl an og bs ws ra rn cd ob).nums)), .call [] [] (Ask.mk 43 at_ n vl an og bs ws ra rn cd ob).only.v [], .lend [] (.e (.agg (Ask.mk 43 at_ n vl an og bs ws ra rn cd ob).only.nums)), .b 17 false, .lend [] (vB true), .lend [] (vB true), .lend [] (.tup [.c (.t (.int .i64 0)), .c (.t (.int .i64 0))]), .lend [] (vB false)] [] [] rfl rfl rfl rfl rfl rfl rfl ?_ trivial (.vB (by simp [Ask.rest, hC]))
                simp only [true_and, and_true]
                exact ⟨hk, hn, ho, hno, hS', ha, hr, hm, hc⟩
            | true =>
              rw [hC] at hc
              by_cases h0 : 0 ≤ ob
              · refine FnOk.go t49 [.lend [] (vB true), .lend [] (.e (.agg (Ask.mk 43 at_ n vl an og bs ws ra rn cd ob).nums)), .call [] [] (Ask.mk 43 at_ n vl an og bs ws ra rn cd ob).only.v [], .lend [] (.e (.agg (Ask.mk 43 at_ n vl an og bs ws ra rn cd ob).only.nums)), .b 17 false, .lend [] (vB true), .lend [] (vB true), .lend [] (.tup [.c (.t (.int .i64 0)), .c (.t (.int .i64 0))]), .lend [] (vB true), .b 96 true] [] [] rfl rfl rfl rfl rfl rfl rfl ?_ trivial (.vB (by simp [Ask.rest, hC, h0]))
                simp only [true_and, and_true]
                exact ⟨hk, hn, ho, hno, hS', ha, hr, hm, hc, decide_eq_true h0⟩
              · refine FnOk.go t49 [.lend [] (vB true), .lend [] (.e (.agg (Ask.mk 43 at_ n vl an og bs ws ra rn cd ob).nums)), .call [] [] (Ask.mk 43 at_ n vl an og bs ws ra rn cd ob).only.v [], .lend [] (.e (.agg (Ask.mk 43 at_ n vl an og bs ws ra rn cd ob).only.nums)), .b 17 false, .lend [] (vB true), .lend [] (vB true), .lend [] (.tup [.c (.t (.int .i64 0)), .c (.t (.int .i64 0))]), .lend [] (vB true), .b 96 false] [] [] rfl rfl rfl rfl rfl rfl rfl ?_ trivial (.vB (by simp [Ask.rest, hC, h0]))
                simp only [true_and, and_true]
                exact ⟨hk, hn, ho, hno, hS', ha, hr, hm, hc, decide_eq_false h0⟩
end Go.Proofs.YthddlkhfkncgpaaGreat
