/-
  The bytes of a reply: who the device is.
-/
import Derived.Test.YtheaeddojcebjaaM34
set_option maxRecDepth 100000
set_option maxHeartbeats 4000000
set_option linter.unusedVariables false
set_option linter.unusedSimpArgs false
namespace Go.Proofs.Ytheaeddojcebjaa
open Go.RowKit

theorem leOs_nil6 : LeOs [] [] := .nil
theorem objsOk_rng : ∀ {l : List Obj} {n : Int}, n ≤ 253 → objsOk n l = true → n + 2 * l.length ≤ 253 ∧ ((objB l).length : Int) ≤ 253 - n ∧ ∀ i, (h : i < l.length) → (0 ≤ l[i].1 ∧ l[i].1 ≤ 255) ∧ l[i].2.size ≤ 253 - n
  | [], n, hn, h => ⟨by simp; omega, by simp [objB]; omega, fun i h => absurd h (by simp)⟩
  | o :: l, n, hn, h => by
    simp only [objsOk, Bool.and_eq_true, decide_eq_true_eq] at h
    obtain ⟨⟨h1, h2⟩, h3⟩ := h
    obtain ⟨r1, r2, r3⟩ := objsOk_rng h2 h3
    have hb := of_decide_eq_true h1
    refine ⟨by simp; omega, by simp [objB] at r2 ⊢; omega, fun i hi => ?_⟩
    cases i with
    | zero => exact ⟨hb, by simp; omega⟩
    | succ i =>
      have := r3 i (by simpa using hi)
      simp only [List.getElem_cons_succ]
      omega
theorem tell43 {a : Tell} (h : a.right = true) (he : a.exc = 0) (h43 : a.fn = 43) : (1 ≤ a.code ∧ a.code ≤ 4) ∧ (0 ≤ a.level ∧ a.level ≤ 255) ∧ (0 ≤ a.next ∧ a.next ≤ 255) ∧ objsOk 7 a.objs = true := by
  simp [Tell.right, he, Tell.rest, h43, countsB, bytefulB] at h
  refine ⟨by omega, by omega, by omega, ?_⟩
  simp_all
theorem objB_len (l : List Obj) (i : Nat) : (objB (l.take i)).length ≤ (objB l).length := by
  have e : objB l = objB (l.take i) ++ objB (l.drop i) := by
    unfold objB
    rw [← List.flatMap_append, List.take_append_drop]
  rw [e]
  simp
theorem tellBytes43_ok {a : Tell} (hf : a.Fit) (h : a.right = true) (he : a.exc = 0) (h43 : a.fn = 43) : FnOk Try.prog 43 [a.v] [] (bytR (tellB a) 0) [] := by
  have hr := tRight_ok hf
  rw [h] at hr
  obtain ⟨hc, hl, hx, hob⟩ := tell43 h he h43
  have h1 := one_ok a.more
  obtain ⟨fn, exc, bs, ws, at_, n, vl, an, og, cd, lv, mo, nx, os⟩ := a
  simp only at he h43 hc hl hx hob h1
  subst he h43
  obtain ⟨r1, r2, r3⟩ := objsOk_rng (by omega) hob
  refine FnOk.start t43 rfl rfl rfl ?_
  refine Tri.seq (Tri.go [] rfl trivial ?_)
  refine Tri.seq (Tri.tree (.f [] hr .nil) rfl ⟨trivial, by simp [leVs], ?_⟩)
  refine Tri.seq (Tri.tree (.a (.b 13 false) .nil) rfl ⟨by simp, ?_⟩)
  refine Tri.seq (Tri.tree (.w .nil) rfl ⟨trivial, ⟨⟨rfl, by simp⟩, trivial⟩, ?_⟩)
  refine Tri.seq (Tri.seq (Tri.go [] rfl trivial ?_))
  refine Tri.block ?_
  refine Tri.seq (Tri.tree .nil rfl ?_)
  refine Tri.seq (Tri.seq (Tri.tree (.f [] h1 .nil) rfl ?_))
  have h255 : one mo * 255 = if mo then 255 else 0 := by cases mo <;> rfl
  have h2 : 0 ≤ one mo ∧ one mo ≤ 1 := by cases mo <;> simp [one]
  repeat' (apply And.intro)
  all_goals try (simp [leVs, leP, leE, leC]; done)
  all_goals try omega
  all_goals try (simp; omega)
  refine Tri.seq (Tri.go [] rfl trivial ?_)
  refine Tri.let [2] [] [4, 121, 122, 123] rfl trivial ?_
  refine Tri.block ?_
  refine Tri.lp (fun q ρ hl => ∃ i, q = os.length - i ∧ i ≤ os.length ∧ hl = [oI .u8 ([43, 14, cd, lv, if mo then 255 else 0, nx, (os.length : Int)] ++ objB (os.take i))] ∧ keepE ρ [4, 121, 122, 123] = some [(4, vC (.sl 0 0 (7 + (objB (os.take i)).length))), (121, vD (lO os)), (122, vI .i64 os.length), (123, vI .i64 i)]) os.length ⟨0, by omega, by omega, ?_, keep_of rfl ?_⟩ ?_
  · have e0 : ∀ o : Ob, o = oI .u8 ([43, 14, cd, lv, if mo then 255 else 0, nx, (os.length : Int)] ++ objB (os.take 0)) → [o] = [oI .u8 ([43, 14, cd, lv, if mo then 255 else 0, nx, (os.length : Int)] ++ objB (os.take 0))] := fun o h => by rw [h]
    refine e0 _ ?_
    simp [oI, rI, wu8, h255, objB]
    refine ⟨by omega, by omega, ?_, by omega, by omega⟩
    cases mo <;> rfl
  · simp [objB]
  rintro q ρ hl' ⟨i, rfl, hi, rfl, hkk⟩
  refine Tri.keep _ hkk ?_
  by_cases h : i < os.length
  · have hg := oRows_get h
    obtain ⟨ho1, ho2⟩ := r3 i h
    have e := objB_take h
    have hlen : (objB (os.take i)).length ≤ 253 := by
      have := objB_len os i
      omega
    generalize os[i] = o at *
    obtain ⟨o1, o2⟩ := o
    simp only at ho1 ho2 hg e
    refine Tri.seq (Tri.go [] rfl trivial ?_)
    refine Tri.seq (Tri.go [.b 124 true] rfl ⟨by simp; omega, trivial⟩ ?_)
    refine Tri.seq (Tri.block ?_)
    refine Tri.tree (.a (.at [.int .i64 o1, .str o2]) .nil) rfl ?_
    refine ⟨⟨by omega, rfl, hg⟩, by simp, trivial, trivial, by simp, ⟨.inr rfl, rfl, by simp; omega, by simp, by omega, by omega⟩, ⟨.inr rfl, rfl, by simp; omega, by simp, by omega, by omega⟩, ?_⟩
    refine Tri.let [3] [] [4, 121, 122, 123] rfl trivial ?_
    refine Tri.go [] rfl ⟨by omega, trivial⟩ (again (os.length - (i + 1)) (by omega) ⟨i + 1, rfl, by omega, ?_, keep_of rfl ?_⟩)
    · have e0 : ∀ o : Ob, o = oI .u8 ([43, 14, cd, lv, if mo then 255 else 0, nx, (os.length : Int)] ++ objB (os.take (i + 1))) → [o] = [oI .u8 ([43, 14, cd, lv, if mo then 255 else 0, nx, (os.length : Int)] ++ objB (os.take (i + 1)))] := fun o h => by rw [h]
      refine e0 _ ?_
      rw [e]
      simp [oI, rI, wu8, sB, List.take_of_length_le]
      omega
    · rw [e]
      simp
      omega
  · refine Tri.go [.b 124 false] rfl ⟨by simp; omega, trivial⟩ (outQ ?_)
    have hii : i = os.length := by omega
    subst hii
    refine Tri.tree .nil rfl ?_
    refine Tri.treeR (.a (.call [] [0] .u []) .nil) rfl ?_
    simp [leP, leE, leEs, leL, leC, tellB, rI, leOs_nil6]
    omega
theorem rTellBytes43_ok {a : Tell} (hf : a.Fit) (h : a.right = true) (he : a.exc = 0) (h43 : a.fn = 43) : FnOk Try.prog 55 [a.v] [] (bytR (tellB a) 0) [] := by
  have hr := tells6_ok hf
  rw [h] at hr
  obtain ⟨hc, hl, hx, hob⟩ := tell43 h he h43
  obtain ⟨fn, exc, bs, ws, at_, n, vl, an, og, cd, lv, mo, nx, os⟩ := a
  simp only at he h43 hc hl hx hob
  subst he h43
  obtain ⟨r1, r2, r3⟩ := objsOk_rng (by omega) hob
  refine FnOk.start t55 rfl rfl rfl ?_
  refine Tri.seq (Tri.go [] rfl trivial ?_)
  refine Tri.seq (Tri.tree (.f [] hr .nil) rfl ⟨trivial, by simp [leVs], ?_⟩)
  refine Tri.seq (Tri.tree (.a (.b 14 false) .nil) rfl ⟨by simp, ?_⟩)
  refine Tri.seq (Tri.tree (.w .nil) rfl ⟨trivial, ⟨⟨rfl, by simp⟩, trivial⟩, ?_⟩)
  refine Tri.seq (Tri.tree .nil rfl ?_)
  refine Tri.seq (Tri.go [] rfl trivial ?_)
  refine Tri.mid (fun ρ hl => hl = [.box (Tell.mk 43 0 bs ws at_ n vl an og cd lv mo nx os).cs, oI .u8 [43]] ∧ keepE ρ [1, 4, 6] = some [(1, vC (.ptr 0 0)), (4, vC (.sl 1 0 1)), (6, vI .u8 (if mo then 255 else 0))]) ?_ ?_
  · cases mo with
    | false => exact Tri.tree .nil rfl ⟨rfl, keep_of rfl rfl⟩
    | true => exact Tri.tree .nil rfl ⟨rfl, keep_of rfl rfl⟩
  rintro ρ hl' ⟨rfl, hkk⟩
  refine Tri.keep _ hkk ?_
  refine Tri.seq (Tri.tree .nil rfl ?_)
  repeat' (apply And.intro)
  all_goals try (simp [leVs, leP, leE, leC]; done)
  all_goals try omega
  all_goals try (simp; omega)
  refine Tri.seq (Tri.seq (Tri.go [] rfl trivial ?_))
  refine Tri.let [0, 2] [] [1, 4, 7] rfl trivial ?_
  refine Tri.block ?_
  have e0 : ∀ (b o : Ob) (x : List Int), o = oI .u8 x → [b, o] = [b, oI .u8 x] := fun b o x h => by rw [h]
  refine Tri.lp (fun q ρ hl => ∃ i, q = os.length - i ∧ i ≤ os.length ∧ hl = [.box (Tell.mk 43 0 bs ws at_ n vl an og cd lv mo nx os).cs, oI .u8 ([43, 14, cd, lv, if mo then 255 else 0, nx, (os.length : Int)] ++ objB (os.take i))] ∧ keepE ρ [1, 4, 7] = some [(1, vC (.ptr 0 0)), (4, vC (.sl 1 0 (7 + (objB (os.take i)).length))), (7, vI .i64 i)]) os.length ⟨0, by omega, by omega, ?_, keep_of rfl ?_⟩ ?_
  · refine e0 _ _ _ ?_
    simp [oI, rI, wu8, objB]
    omega
  · simp [objB]
  rintro q ρ hl' ⟨i, rfl, hi, rfl, hkk⟩
  refine Tri.keep _ hkk ?_
  by_cases h : i < os.length
  · have hg := oRows_get h
    obtain ⟨ho1, ho2⟩ := r3 i h
    have e := objB_take h
    have hlen : (objB (os.take i)).length ≤ 253 := by
      have := objB_len os i
      omega
    generalize os[i] = o at *
    obtain ⟨o1, o2⟩ := o
    simp only at ho1 ho2 hg e
    refine Tri.seq (Tri.tree (.a (.b 127 true) .nil) rfl ⟨by simp; omega, ?_⟩)
    refine Tri.seq (Tri.block ?_)
    refine Tri.tree (.a (.at [.int .i64 o1, .str o2]) .nil) rfl ?_
    refine ⟨⟨by simp; omega, rfl, hg⟩, by simp, trivial, trivial, by simp, ⟨.inr rfl, rfl, by simp; omega, by simp, by omega, by omega⟩, ⟨.inr rfl, rfl, by simp; omega, by simp, by omega, by omega⟩, ?_⟩
    refine Tri.let [0, 4] [] [1, 4, 7] rfl trivial ?_
    refine Tri.go [] rfl ⟨by omega, trivial⟩ (again (os.length - (i + 1)) (by omega) ⟨i + 1, rfl, by omega, ?_, keep_of rfl ?_⟩)
    · refine e0 _ _ _ ?_
      rw [e]
      simp [oI, rI, wu8, sB, List.take_of_length_le]
      omega
    · rw [e]
      simp
      omega
  · refine Tri.tree (.a (.b 127 false) .nil) rfl ⟨by simp; omega, outQ ?_⟩
    have hii : i = os.length := by omega
    subst hii
    refine Tri.treeR (.a (.call [] [1] .u []) .nil) rfl ?_
    simp [leP, leE, leEs, leL, leC, tellB, rI, leOs_nil6]
    omega
end Go.Proofs.Ytheaeddojcebjaa
