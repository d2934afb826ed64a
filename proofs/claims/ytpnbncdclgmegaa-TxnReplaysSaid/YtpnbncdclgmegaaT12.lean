/-
  A view that has looked, or written (view.Read, view.Write).
-/
import Derived.Test.YtpnbncdclgmegaaT11
set_option maxRecDepth 100000
set_option maxHeartbeats 1000000
set_option linter.unusedVariables false
set_option linter.unusedSimpArgs false
namespace Go.Proofs.Ytpnbncdclgmegaa
open Go.RowKit

abbrev SpB (s : Spn) : Prop := -1000000000 ≤ s.2.1 ∧ s.2.2 ≤ 1000000000
abbrev CeB (c : Cel) : Prop := -100000000 ≤ c.2.1 ∧ c.2.1 ≤ 100000000
theorem restF_len (l : List Cel) (t to : Int) : ∀ (f i : Nat) (fr : Int), (restF l t to f i fr).length ≤ f + 1
  | 0, i, fr => by unfold restF; split <;> simp
  | f + 1, i, fr => by
    unfold restF
    split
    · rename_i c _
      split
      · have := restF_len l t to f (i + 1) (c.2.1 + 1)
        rw [List.length_append]
        split <;> simp <;> omega
      · split <;> simp
    · split <;> simp
theorem restL_len (l : List Cel) (s : Spn) : (restL l s).length ≤ l.length + 1 := by
  have := restF_len l s.1 s.2.2 (l.length - findL l s.1 s.2.1) (findL l s.1 s.2.1) s.2.1
  unfold restL
  omega
theorem restF_rng {l : List Cel} {t to : Int} (hc : ∀ c ∈ l, CeB c) (hto : to ≤ 1000000000) : ∀ (f i : Nat) (fr : Int), -1000000000 ≤ fr → ∀ x ∈ restF l t to f i fr, SpB x
  | 0, i, fr, h, x, hx => by
    unfold restF at hx
    split at hx
    · simp at hx; subst hx; exact ⟨h, hto⟩
    · simp at hx
  | f + 1, i, fr, h, x, hx => by
    unfold restF at hx
    split at hx
    · rename_i c hci
      have hcb := hc c (List.mem_of_getElem? hci)
      split at hx
      · rcases List.mem_append.1 hx with hx | hx
        · split at hx
          · simp at hx; subst hx; exact ⟨h, by have := hcb.2; show c.2.1 ≤ _; omega⟩
          · simp at hx
        · exact restF_rng hc hto f (i + 1) (c.2.1 + 1) (by have := hcb.1; omega) x hx
      · split at hx
        · simp at hx; subst hx; exact ⟨h, hto⟩
        · simp at hx
    · split at hx
      · simp at hx; subst hx; exact ⟨h, hto⟩
      · simp at hx
theorem restL_rng {l : List Cel} {s : Spn} (hc : ∀ c ∈ l, CeB c) (hs : SpB s) : ∀ x ∈ restL l s, SpB x := restF_rng hc hs.2 _ _ _ hs.1
theorem stepS_rng {q : AddSt} {x : Spn} (h1 : ∀ y ∈ q.1, SpB y) (h2 : SpB q.2.2) (hx : SpB x) : (∀ y ∈ (stepS q x).1, SpB y) ∧ SpB (stepS q x).2.2 := by
  unfold stepS
  split
  · exact ⟨fun y hy => by rcases List.mem_append.1 hy with hy | hy; exact h1 y hy; simp at hy; subst hy; exact hx, h2⟩
  · split
    · exact ⟨fun y hy => by rcases List.mem_append.1 hy with hy | hy; exact h1 y hy; simp at hy; subst hy; exact hx, h2⟩
    · refine ⟨h1, ?_⟩
      simp only [SpB, mnI, mxI] at *
      split <;> split <;> omega
theorem foldS_rng {s : Spn} (hs : SpB s) : ∀ (R : List Spn) (q : AddSt), (∀ y ∈ q.1, SpB y) → SpB q.2.2 → (∀ y ∈ R, SpB y) → (∀ y ∈ (R.foldl stepS q).1, SpB y) ∧ SpB (R.foldl stepS q).2.2
  | [], q, h1, h2, _ => ⟨h1, h2⟩
  | x :: R, q, h1, h2, h3 => by
    obtain ⟨e1, e2⟩ := stepS_rng h1 h2 (h3 x (by simp))
    exact foldS_rng hs R (stepS q x) e1 e2 fun y hy => h3 y (by simp [hy])
theorem addS_rng {R : List Spn} {s : Spn} (hR : ∀ y ∈ R, SpB y) (hs : SpB s) : ∀ y ∈ addS R s, SpB y := by
  obtain ⟨h1, h2⟩ := foldS_rng hs R ([], 0, s) (by simp) hs hR
  intro y hy
  unfold addS at hy
  rcases List.mem_append.1 hy with hy | hy
  · exact h1 y (List.mem_of_mem_take hy)
  · rcases List.mem_cons.1 hy with rfl | hy
    · exact h2
    · exact h1 y (List.mem_of_mem_drop hy)
def addsS (R l : List Spn) : List Spn := l.foldl addS R
theorem addsS_succ {R l : List Spn} {i : Nat} (h : i < l.length) : addsS R (l.take (i + 1)) = addS (addsS R (l.take i)) l[i] := by
  unfold addsS
  rw [← List.take_append_getElem h, List.foldl_append]
  rfl
theorem addsS_len : ∀ (l R : List Spn), (addsS R l).length ≤ R.length + l.length
  | [], R => by simp [addsS]
  | x :: l, R => by
    have h1 := addsS_len l (addS R x)
    have h2 := addS_len R x
    have : addsS R (x :: l) = addsS (addS R x) l := rfl
    rw [this]
    simp
    omega
theorem addsS_rng : ∀ (l R : List Spn), (∀ y ∈ R, SpB y) → (∀ y ∈ l, SpB y) → ∀ y ∈ addsS R l, SpB y
  | [], R, h, _ => h
  | x :: l, R, h, h2 => addsS_rng l (addS R x) (addS_rng h (h2 x (by simp))) fun y hy => h2 y (by simp [hy])
def vrdR (L : Chs) (q : Int) (R : List Spn) (W : List Cel) (sp : Spn) (most : Int) : List Spn × List Int × Int :=
  if most < (addsS R (restL W sp)).length then (R, [], 4) else (addsS R (restL W sp), lookL L W q sp, 0)
abbrev eVw (q : Int) (R : List Spn) (W : List Cel) : E := .agg [.t (.int .u64 q), .t (lSp R), .t (lCl W)]
abbrev bxV (q : Int) (R : List Spn) (W : List Cel) : Ob := .box [.t (.int .u64 q), .t (lSp R), .t (lCl W)]
theorem vread_ok {s : St} (hs : StOk s) {q : Int} {R : List Spn} {W : List Cel} (hR : R.length ≤ 1000000) (hW : W.length ≤ 1000000) (hc : ∀ c ∈ W, CeB c) {sp : Spn} (hsp : SpB sp) {most : Int} :
    FnOk Try.prog 48 [vC (.ptr 0 0), vVw q R W, vS3 sp, vI .i64 most] [stB s 1, stM s] (.tup [eVw q (vrdR s.L q R W sp most).1 W, .c (.t (lI .u16 (vrdR s.L q R W sp most).2.1)), .c (.t (.int .i64 (vrdR s.L q R W sp most).2.2))]) [stB s 1, stM s] := by
  have hown := own_ok (s := q) (R := R) (W := W) (by omega) (by omega)
  have hrest := rest_ok (l := W) (by omega) (fun c h => by have := hc c h; omega) (s := sp)
  have hrl := restL_len W sp
  refine FnOk.start t48 rfl rfl rfl ?_
  refine Tri.seq (Tri.go [] rfl trivial ?_)
  refine Tri.seq (Tri.tree (.f [] hown .nil) rfl ⟨trivial, by simp [leVs, leP, leE, leL, leC], ?_⟩)
  refine Tri.mid (fun ρ hl => hl = [stB s 1, stM s, bxV q R W, bxS sp, .box [.t (.int .u64 0), .t .nil, .t .nil], bxV q (addsS R (restL W sp)) W] ∧
    keepE ρ [0, 3, 5, 6, 8, 9, 10, 11] = some [(0, vC (.ptr 0 0)), (3, vI .i64 most), (5, vC (.ptr 2 0)), (6, vC (.ptr 3 0)), (8, vC (.ptr 4 0)), (9, vD .nil), (10, vI .i64 0), (11, vC (.ptr 5 0))]) ?_ ?_
  · refine Tri.seq (Tri.tree (.f [] hrest .nil) rfl ⟨trivial, by simp [leVs, leP, leE, leL, leC], ?_⟩)
    generalize restL W sp = l at *
    refine Tri.block ?_
    refine Tri.lp (fun z ρ hl => ∃ i, z = l.length - i ∧ i ≤ l.length ∧ hl = [stB s 1, stM s, bxV q R W, bxS sp, .box [.t (.int .u64 0), .t .nil, .t .nil], bxV q (addsS R (l.take i)) W] ∧
      keepE ρ [0, 3, 5, 6, 8, 9, 10, 11, 19, 20, 21] = some [(0, vC (.ptr 0 0)), (3, vI .i64 most), (5, vC (.ptr 2 0)), (6, vC (.ptr 3 0)), (8, vC (.ptr 4 0)), (9, vD .nil), (10, vI .i64 0), (11, vC (.ptr 5 0)), (19, vSp l), (20, vI .i64 l.length), (21, vI .i64 i)]) l.length ⟨0, by omega, by omega, rfl, keep_of rfl rfl⟩ ?_
    rintro z ρ hl' ⟨i, rfl, hi, rfl, hkk⟩
    refine Tri.keep _ hkk ?_
    by_cases h : i < l.length
    · have hg := rwS_get h
      have hsx := addsS_succ (R := R) h
      have hln := addsS_len (l.take i) R
      have htl : (l.take i).length ≤ l.length := by rw [List.length_take]; omega
      generalize l[i] = x at *
      generalize addsS R (l.take i) = R' at *
      have hadd := add_ok (R := R') (by omega) (s := x)
      refine Tri.seq (Tri.go [] rfl trivial (Tri.seq (Tri.go [.b 22 true] rfl ⟨decide_eq_true (by omega), trivial⟩ ?_)))
      refine Tri.seq (Tri.block (Tri.seq (Tri.tree (.a (.at [.int .i64 x.1, .int .i64 x.2.1, .int .i64 x.2.2]) .nil) rfl ⟨⟨by omega, rfl, hg⟩, by simp, ?_⟩)))
      refine Tri.tree (.f [] hadd .nil) rfl ⟨trivial, by simp [leVs, leP, leE, leL, leC], ?_⟩
      refine Tri.let [0, 1, 2, 3, 4, 5] [] [0, 3, 5, 6, 8, 9, 10, 11, 19, 20, 21] rfl trivial ?_
      exact Tri.go [] rfl ⟨by omega, trivial⟩ (again (l.length - (i + 1)) (by omega) ⟨i + 1, rfl, by omega, by rw [hsx], keep_of rfl (by simp)⟩)
    · have : i = l.length := by omega
      subst this
      rw [List.take_length]
      exact Tri.seq (Tri.go [] rfl trivial (Tri.seq (Tri.go [.b 22 false] rfl ⟨decide_eq_false (by omega), trivial⟩ (And.intro rfl (keep_of rfl rfl)))))
  rintro ρ hl' ⟨rfl, hkk⟩
  refine Tri.keep _ hkk ?_
  unfold vrdR
  have hlook := look_ok hs (q := q) (R := R) (W := W) (by omega) (sp := sp) hsp.1 hsp.2
  by_cases h : most < (addsS R (restL W sp)).length
  · rw [if_pos h]
    refine Tri.seq (Tri.tree (.a (.b 35 true) (.f [] hown .nil)) rfl ⟨decide_eq_true h, trivial, by simp [leVs, leP, leE, leL, leC], ?_⟩)
    exact RetQ.le [0, 1] [] rfl ⟨trivial, trivial⟩ (.tup (.cons (.refl _) (.cons (.c (.t (.nil 1))) (.cons (.refl _) .nil)))) (.refl _)
  · rw [if_neg h]
    refine Tri.seq (Tri.tree (.a (.b 35 false) .nil) rfl ⟨decide_eq_false h, ?_⟩)
    refine Tri.tree (.o [0, 1] [] hlook .nil) rfl ⟨trivial, by simp [leVs, leP, leE, leL, leC], rfl, ?_⟩
    exact RetQ.le [0, 1] [] rfl ⟨trivial, trivial⟩ (.refl _) (.refl _)
def putsL (W l : List Cel) : List Cel := l.foldl putL W
theorem putsL_succ {W l : List Cel} {i : Nat} (h : i < l.length) : putsL W (l.take (i + 1)) = putL (putsL W (l.take i)) l[i] := by
  unfold putsL
  rw [← List.take_append_getElem h, List.foldl_append]
  rfl
theorem putsL_len : ∀ (l W : List Cel), (putsL W l).length ≤ W.length + l.length
  | [], W => by simp [putsL]
  | x :: l, W => by
    have h1 := putsL_len l (putL W x)
    have h2 := putL_len W x
    have : putsL W (x :: l) = putsL (putL W x) l := rfl
    rw [this]
    simp
    omega
def vwrR (W l : List Cel) (most : Int) : List Cel × Int := if most < (putsL W l).length then (W, 4) else (putsL W l, 0)
theorem vwrite_ok {q : Int} {R : List Spn} {W l : List Cel} (hR : R.length ≤ 1000000) (hW : W.length ≤ 1000000) (hl : l.length ≤ 1000000) {most : Int} :
    FnOk Try.prog 51 [vVw q R W, vCl l, vI .i64 most] [] (.tup [eVw q R (vwrR W l most).1, .c (.t (.int .i64 (vwrR W l most).2))]) [] := by
  have hown := own_ok (s := q) (R := R) (W := W) (by omega) (by omega)
  refine FnOk.start t51 rfl rfl rfl ?_
  refine Tri.seq (Tri.go [] rfl trivial ?_)
  refine Tri.seq (Tri.tree (.f [] hown .nil) rfl ⟨trivial, by simp [leVs, leP, leE, leL, leC], ?_⟩)
  refine Tri.mid (fun ρ hl => hl = [bxV q R W, .box [.t (.int .u64 0), .t .nil, .t .nil], bxV q R (putsL W l)] ∧
    keepE ρ [2, 3, 6, 7, 8] = some [(2, vI .i64 most), (3, vC (.ptr 0 0)), (6, vC (.ptr 1 0)), (7, vI .i64 0), (8, vC (.ptr 2 0))]) ?_ ?_
  · refine Tri.seq (Tri.go [] rfl trivial ?_)
    refine Tri.block ?_
    refine Tri.lp (fun z ρ hl => ∃ i, z = l.length - i ∧ i ≤ l.length ∧ hl = [bxV q R W, .box [.t (.int .u64 0), .t .nil, .t .nil], bxV q R (putsL W (l.take i))] ∧
      keepE ρ [2, 3, 6, 7, 8, 13, 14, 15] = some [(2, vI .i64 most), (3, vC (.ptr 0 0)), (6, vC (.ptr 1 0)), (7, vI .i64 0), (8, vC (.ptr 2 0)), (13, vCl l), (14, vI .i64 l.length), (15, vI .i64 i)]) l.length ⟨0, by omega, by omega, rfl, keep_of rfl rfl⟩ ?_
    rintro z ρ hl' ⟨i, rfl, hi, rfl, hkk⟩
    refine Tri.keep _ hkk ?_
    by_cases h : i < l.length
    · have hg := rwC_get h
      have hsx := putsL_succ (W := W) h
      have hln := putsL_len (l.take i) W
      have htl : (l.take i).length ≤ l.length := by rw [List.length_take]; omega
      generalize l[i] = x at *
      generalize putsL W (l.take i) = W' at *
      have hput := bput_ok (l := W') (by omega) (c := x)
      refine Tri.seq (Tri.go [] rfl trivial (Tri.seq (Tri.go [.b 16 true] rfl ⟨decide_eq_true (by omega), trivial⟩ ?_)))
      refine Tri.seq (Tri.block (Tri.seq (Tri.tree (.a (.at [.int .i64 x.1, .int .i64 x.2.1, .int .u16 x.2.2]) .nil) rfl ⟨⟨by omega, rfl, hg⟩, by simp, ?_⟩)))
      refine Tri.tree (.f [] hput .nil) rfl ⟨trivial, by simp [leVs, leP, leE, leL, leC], ?_⟩
      refine Tri.let [0, 1, 2] [] [2, 3, 6, 7, 8, 13, 14, 15] rfl trivial ?_
      exact Tri.go [] rfl ⟨by omega, trivial⟩ (again (l.length - (i + 1)) (by omega) ⟨i + 1, rfl, by omega, by rw [hsx], keep_of rfl (by simp)⟩)
    · have : i = l.length := by omega
      subst this
      rw [List.take_length]
      exact Tri.seq (Tri.go [] rfl trivial (Tri.seq (Tri.go [.b 16 false] rfl ⟨decide_eq_false (by omega), trivial⟩ (And.intro rfl (keep_of rfl rfl)))))
  rintro ρ hl' ⟨rfl, hkk⟩
  refine Tri.keep _ hkk ?_
  unfold vwrR
  by_cases h : most < (putsL W l).length
  · rw [if_pos h]
    refine Tri.seq (Tri.tree (.a (.b 29 true) (.f [] hown .nil)) rfl ⟨decide_eq_true h, trivial, by simp [leVs, leP, leE, leL, leC], ?_⟩)
    exact RetQ.le [] [] rfl ⟨trivial, trivial⟩ (.refl _) (.refl _)
  · rw [if_neg h]
    refine Tri.seq (Tri.tree (.a (.b 29 false) .nil) rfl ⟨decide_eq_false h, ?_⟩)
    refine Tri.treeR .nil rfl ?_
    simp [leP, leE, leEs, leL, leC]
end Go.Proofs.Ytpnbncdclgmegaa
