/-
  Sessions: what stands behind any deeds.
-/
import Derived.Test.YthddlkhfkncgpaaGreatS3t
set_option maxRecDepth 100000
set_option maxHeartbeats 1000000
set_option linter.unusedVariables false
set_option linter.unusedSimpArgs false
namespace Go.Proofs.YthddlkhfkncgpaaGreat
open Go.RowKit

/-- A store behind any deeds. -/
structure Gb (s : St) : Prop where
  L : (s.L.length : Int) ≤ s.n
  ch : ChOk s.n.toNat s.L
  last : 0 ≤ s.last ∧ s.last ≤ 18446744073709551615
  n : 0 ≤ s.n ∧ s.n ≤ s.most
  most : s.most ≤ 100000000
theorem ChOk.mono' {m n : Nat} {L : Chs} (h : ChOk m L) (hn : m ≤ n) : ChOk n L := fun e he => by have := h e he; omega
theorem Gb.go {s : St} (h : Gb s) : StGo s := by
  obtain ⟨h1, h2, h3, h4, h5⟩ := h
  exact ⟨by omega, h2.mono' (by omega), h3, by omega, by omega⟩
theorem Gb.ins {s : St} (h : Gb s) {l : List Cel} : Gb (instR s l).2.2 := by
  unfold instR
  split
  · exact h
  · split
    · exact h
    · split
      · exact h
      · rename_i _ hls hlt
        obtain ⟨h1, h2, h3, h4, h5⟩ := h
        have g1 := addsK_len (q := s.last + 1) l s.L
        have g2 := addsK_ok (q := s.last + 1) l h2
        refine ⟨?_, ?_, ?_, ?_, h5⟩
        · simp only; omega
        · simp only; exact g2.mono' (by omega)
        · simp only; omega
        · simp only; omega
/-- A view within limits. -/
structure Vg (e : En) (v : Vw) : Prop where
  R : (v.R.length : Int) ≤ e.spans
  W : (v.W.length : Int) ≤ e.writes
  rs : ∀ x ∈ v.R, SpB x
  ws : ∀ c ∈ v.W, CeB c
  q : 0 ≤ v.q ∧ v.q ≤ 18446744073709551615
abbrev Mg (e : En) (M : Mo) : Prop := ∀ y ∈ M.es, Vg e y.2.2
theorem Mg.get {e : En} {M : Mo} (h : Mg e M) {k : Int} {v : Vw} (hg : M.get k = some v) : Vg e v := by
  unfold Mo.get at hg
  obtain ⟨y, h1, rfl⟩ := Option.map_eq_some_iff.1 hg
  exact h y (List.mem_of_getElem? h1)
theorem Mg.set {e : En} {M : Mo} (h : Mg e M) {k : Int} {v : Vw} (hv : Vg e v) : Mg e (M.set k v) := by
  unfold Mo.set
  split
  · intro y he
    obtain ⟨j, hj⟩ := List.mem_iff_getElem?.1 he
    rw [List.getElem?_modify] at hj
    cases hL : M.es[j]? with
    | none => rw [hL] at hj; simp at hj
    | some x =>
      rw [hL] at hj
      by_cases hi : M.at k = j
      · simp [hi] at hj; subst hj; exact hv
      · simp [hi] at hj; subst hj; exact h x (List.mem_of_getElem? hL)
  · intro y he
    rcases List.mem_append.1 he with he | he
    · exact h y he
    · simp at he; subst he; exact hv
theorem Mg.del {e : En} {M : Mo} (h : Mg e M) {k : Int} : Mg e (M.del k) := fun y he => h y (List.mem_of_mem_eraseIdx he)
structure Sv (x : Ss) : Prop where
  sp : 0 ≤ x.e.spans ∧ x.e.spans ≤ 1000000
  wr : 0 ≤ x.e.writes ∧ x.e.writes ≤ 1000000
  mb : Mg x.e x.M
  s : Gb x.s
theorem Sv.go {x : Ss} (v : Sv x) (c : Int) : SsGo x c := ⟨v.s.go, fun u hu => by
  have h := v.mb.get hu
  have h1 := h.R
  have h2 := h.W
  have h3 := v.sp
  have h4 := v.wr
  exact ⟨by omega, by omega, h.rs, h.ws⟩⟩
section
variable {x : Ss} {c : Int}
theorem Sv.nil (v : Sv x) : Vg x.e ⟨x.s.last, [], []⟩ := ⟨v.sp.1, v.wr.1, by simp, by simp, v.s.last⟩
theorem Sv.turn (v : Sv x) {st re q : Int} : Sv (turnR x c st re q) := ⟨v.sp, v.wr, v.mb, v.s⟩
theorem Sv.mset (v : Sv x) {u : Vw} (hu : Vg x.e u) : Sv { x with M := x.M.set c u } := ⟨v.sp, v.wr, v.mb.set hu, v.s⟩
theorem Sv.mdel (v : Sv x) : Sv { x with M := x.M.del c } := ⟨v.sp, v.wr, v.mb.del, v.s⟩
theorem Sv.st (v : Sv x) {s : St} (hs : Gb s) : Sv { x with s := s } := ⟨v.sp, v.wr, v.mb, hs⟩
theorem Sv.begin (v : Sv x) : Sv (beginR x c).2 := by
  unfold beginR
  split
  · exact v
  · have hM : Sv { x with M := (begR x.e x.s x.M c).2 } := by
      unfold begR
      split
      · exact v
      · split
        · exact v
        · exact v.mset v.nil
    split
    · exact hM
    · exact ⟨v.sp, v.wr, hM.mb, v.s⟩
theorem Sv.met (v : Sv x) {e : Int} : Sv (metR x c e) := by
  unfold metR
  split
  · exact v.turn
  · exact v
theorem Sv.keep (v : Sv x) {u : Vw} {e : Int} (hu : e = 0 → Vg x.e u) : Sv { x with M := keepR x.M c u e } := by
  unfold keepR
  split
  · rename_i he; exact v.mset (hu he)
  · exact v.mdel
theorem Sv.read (v : Sv x) {sp : Spn} : Sv (sreadR x c sp).2.2 := by
  unfold sreadR
  split
  · exact v
  · rename_i hsp
    have hsp : SpB sp := by
      have h2 : spnR sp = true := by simpa using hsp
      simp [spnR] at h2
      omega
    split
    · refine Sv.met ?_
      show Sv { x with M := (readR x.e x.s x.M c sp).2.2 }
      unfold readR
      split
      · exact v
      · cases hg : x.M.get c with
        | none => exact v
        | some u =>
          have hu := v.mb.get hg
          refine v.keep fun he => ?_
          unfold vrdR at he ⊢
          split
          · rename_i hlt; rw [if_pos hlt] at he; simp at he
          · rename_i hlt
            exact ⟨by simp only; omega, hu.W, addsS_rng _ _ hu.rs (restL_rng hu.ws hsp), hu.ws, hu.q⟩
    · split <;> exact v
theorem putL_mem' {l : List Cel} {c y : Cel} (hy : y ∈ putL l c) : y ∈ l ∨ y = c := by
  unfold putL at hy
  rcases List.mem_append.1 hy with hy | hy
  · exact .inl (List.mem_of_mem_take hy)
  · rcases List.mem_cons.1 hy with rfl | hy
    · exact .inr rfl
    · exact .inl (List.mem_of_mem_drop hy)
theorem putsL_mem {y : Cel} : ∀ (l W : List Cel), y ∈ putsL W l → y ∈ W ∨ y ∈ l
  | [], W, h => .inl h
  | c :: l, W, h => by
    rcases putsL_mem l (putL W c) h with h | h
    · rcases putL_mem' h with h | h
      · exact .inl h
      · exact .inr (by simp [h])
    · exact .inr (by simp [h])
theorem mayL_ceb {l : List Cel} (h : mayL l = true) : ∀ c ∈ l, CeB c := by
  intro c hc
  simp only [mayL, Bool.and_eq_true, Bool.not_eq_true', List.any_eq_false] at h
  have := h.1.2 c hc
  simp [cellR, keyR] at this
  unfold CeB
  omega
theorem Sv.write (v : Sv x) {l : List Cel} : Sv (swriteR x c l).2 := by
  unfold swriteR
  split
  · refine Sv.met ?_
    show Sv { x with M := (writeR x.e x.M c l).2 }
    unfold writeR
    split
    · exact v
    · rename_i hm
      have hm : mayL l = true := by simpa using hm
      cases hg : x.M.get c with
      | none => exact v
      | some u =>
        have hu := v.mb.get hg
        refine v.keep fun he => ?_
        unfold vwrR at he ⊢
        split
        · rename_i hlt; rw [if_pos hlt] at he; simp at he
        · rename_i hlt
          exact ⟨hu.R, by simp only; omega, hu.rs, fun y hy => by
            rcases putsL_mem l u.W hy with hy | hy
            · exact hu.ws y hy
            · exact mayL_ceb hm y hy, hu.q⟩
  · split
    · exact v
    · exact v.st v.s.ins
theorem Sv.commit (v : Sv x) : Sv (scomR x c).2 := by
  unfold scomR
  split
  · exact v
  · refine Sv.turn ?_
    unfold comR
    cases hg : x.M.get c with
    | none => exact v
    | some u =>
      have hu := v.mb.get hg
      simp only
      split
      · exact v.mdel
      · split
        · exact v.mdel
        · exact v.mdel.st v.s.ins
theorem Sv.abort (v : Sv x) : Sv (sabR x c).2 := by
  unfold sabR
  split
  · exact v
  · exact v.mdel.turn
theorem Sv.hear (v : Sv x) : Sv (hearR x c) := by
  unfold hearR
  split
  · exact ⟨v.sp, v.wr, v.mb, v.s⟩
  · exact v
theorem Sv.close (v : Sv x) : Sv (closeR x c).2 := by
  unfold closeR
  have hM : Sv { x with M := if ((stG x.A c).st == 1) = true then x.M.del c else x.M } := by
    split
    · exact v.mdel
    · exact v
  exact ⟨v.sp, v.wr, hM.mb, v.s⟩
theorem Sv.over (v : Sv x) : Sv (overR x c) := v.mdel.turn
theorem Sv.overs : ∀ (l : List Int) {x : Ss}, Sv x → Sv (oversR x l)
  | [], _, v => v
  | c :: l, _, v => Sv.overs l v.over
theorem Sv.tick (v : Sv x) : Sv (stickR x).2 := Sv.overs _ (x := { x with b := x.b.tick }) ⟨v.sp, v.wr, v.mb, v.s⟩
end
/-- How a session may stand. -/
def Sk (s : Ses) : Prop := (0 ≤ s.st ∧ s.st ≤ 2) ∧ (0 ≤ s.re ∧ s.re ≤ 5) ∧ 0 ≤ s.q ∧ s.q ≤ 18446744073709551615
structure Sw (x : Ss) : Prop where
  v : Sv x
  k : ∀ j, Sk (stG x.A j)
theorem stG_set (A : Ao) (k j : Int) (v : Ses) : stG (A.set k v) j = if j = k then v else stG A j := by
  unfold stG
  by_cases h : j = k
  · subst h; rw [if_pos rfl, Ao.get_set_eq]; rfl
  · rw [if_neg h, Ao.get_set_ne h]
theorem Sw.turn {x : Ss} (h : Sw x) {c st re q : Int} (h1 : 0 ≤ st ∧ st ≤ 2) (h2 : 0 ≤ re ∧ re ≤ 5) (h3 : 0 ≤ q ∧ q ≤ 18446744073709551615) : Sw (turnR x c st re q) := ⟨h.v.turn, fun j => by
  show Sk (stG (x.A.set c ⟨st, re, 0, q⟩) j)
  rw [stG_set]
  split
  · exact ⟨h1, h2, h3⟩
  · exact h.k j⟩
theorem Sw.of {x y : Ss} (h : Sw x) (hv : Sv y) (ha : y.A = x.A) : Sw y := ⟨hv, fun j => by rw [ha]; exact h.k j⟩
section
variable {x : Ss} {c : Int}
theorem Sw.begin (h : Sw x) : Sw (beginR x c).2 := by
  have hv := h.v.begin (c := c)
  refine ⟨hv, fun j => ?_⟩
  unfold beginR
  split
  · exact h.k j
  · split
    · exact h.k j
    · show Sk (stG (x.A.set c ⟨1, 0, 0, x.s.last⟩) j)
      rw [stG_set]
      split
      · exact ⟨⟨by simp, by simp⟩, ⟨by simp, by simp⟩, h.v.s.last⟩
      · exact h.k j
theorem whyN_rng (e : Int) : 0 ≤ whyN e ∧ whyN e ≤ 5 := by
  unfold whyN
  repeat' split
  all_goals omega
theorem Sw.commit (h : Sw x) : Sw (scomR x c).2 := by
  have hv := h.v.commit (c := c)
  unfold scomR at hv ⊢
  split
  · exact h
  · rename_i hs
    rw [if_neg hs] at hv
    refine ⟨hv, fun j => ?_⟩
    show Sk (stG (x.A.set c ⟨0, _, 0, (comR x.s x.M c).1⟩) j)
    rw [stG_set]
    split
    · refine ⟨⟨by simp, by simp⟩, whyN_rng _, ?_⟩
      simp only
      unfold comR
      cases hg : x.M.get c with
      | none => simp
      | some u =>
        have hu := (h.v.mb.get hg).q
        have hl := h.v.s.last
        simp only
        split
        · exact hu
        · split
          · simp
          · unfold instR
            split
            · simp
            · split
              · simp
              · split
                · simp
                · simp only; omega
    · exact h.k j
theorem Sw.abort (h : Sw x) : Sw (sabR x c).2 := by
  unfold sabR
  split
  · exact h
  · exact Sw.turn (x := { x with M := x.M.del c }) (h.of h.v.mdel rfl) (by omega) (by omega) (by omega)
theorem Sw.met (h : Sw x) {e : Int} : Sw (metR x c e) := by
  unfold metR
  split
  · exact h.turn (by omega) (by omega) (by omega)
  · exact h
theorem sreadR_A {sp : Spn} : ∃ M, Sv x → Sv { x with M := M } ∧ ((sreadR x c sp).2.2 = x ∨ (sreadR x c sp).2.2 = metR { x with M := M } c (sreadR x c sp).2.1) := by
  refine ⟨(readR x.e x.s x.M c sp).2.2, fun v => ?_⟩
  have hv := v.read (c := c) (sp := sp)
  unfold sreadR at hv ⊢
  split
  · rename_i hs
    refine ⟨?_, .inl rfl⟩
    unfold readR
    rw [if_pos hs]
    exact v
  · rename_i hs
    rw [if_neg hs] at hv
    split
    · rename_i h1
      rw [if_pos h1] at hv
      refine ⟨?_, .inr rfl⟩
      unfold metR turnR at hv
      split at hv
      · exact ⟨hv.sp, hv.wr, hv.mb, hv.s⟩
      · exact hv
    · rename_i h1
      rw [if_neg h1] at hv
      have : Sv { x with M := (readR x.e x.s x.M c sp).2.2 } := by
        have hsp : SpB sp := by
          have h2 : spnR sp = true := by simpa using hs
          simp [spnR] at h2
          omega
        unfold readR
        split
        · exact v
        · cases hg : x.M.get c with
          | none => exact v
          | some u =>
            have hu := v.mb.get hg
            refine v.keep fun he => ?_
            unfold vrdR at he ⊢
            split
            · rename_i hlt; rw [if_pos hlt] at he; simp at he
            · rename_i hlt
              exact ⟨by simp only; omega, hu.W, addsS_rng _ _ hu.rs (restL_rng hu.ws hsp), hu.ws, hu.q⟩
      split
      · exact ⟨this, .inl rfl⟩
      · exact ⟨this, .inl rfl⟩
theorem Sw.read (h : Sw x) {sp : Spn} : Sw (sreadR x c sp).2.2 := by
  obtain ⟨M, hM⟩ := sreadR_A (x := x) (c := c) (sp := sp)
  obtain ⟨h1, h2⟩ := hM h.v
  rcases h2 with h2 | h2
  · rw [h2]; exact h
  · rw [h2]; exact (h.of h1 rfl).met
theorem Sw.write (h : Sw x) {l : List Cel} : Sw (swriteR x c l).2 := by
  have hv := h.v.write (c := c) (l := l)
  unfold swriteR at hv ⊢
  split
  · rename_i h1
    rw [if_pos h1] at hv
    refine Sw.met (x := { x with M := (writeR x.e x.M c l).2 }) (h.of ?_ rfl)
    unfold metR turnR at hv
    split at hv
    · exact ⟨hv.sp, hv.wr, hv.mb, hv.s⟩
    · exact hv
  · rename_i h1
    rw [if_neg h1] at hv
    split
    · exact h
    · rename_i h2
      rw [if_neg h2] at hv
      exact h.of hv rfl
theorem Sw.hear (h : Sw x) : Sw (hearR x c) := by
  have hv := h.v.hear (c := c)
  unfold hearR at hv ⊢
  split
  · rename_i h1; rw [if_pos h1] at hv; exact h.of hv rfl
  · exact h
theorem Sw.over (h : Sw x) : Sw (overR x c) := Sw.turn (x := { x with M := x.M.del c }) (h.of h.v.mdel rfl) (by omega) (by omega) (by omega)
theorem Sw.overs : ∀ (l : List Int) {x : Ss}, Sw x → Sw (oversR x l)
  | [], _, v => v
  | c :: l, _, v => Sw.overs l v.over
theorem Sw.tick (h : Sw x) : Sw (stickR x).2 := Sw.overs _ (x := { x with b := x.b.tick }) (h.of ⟨h.v.sp, h.v.wr, h.v.mb, h.v.s⟩ rfl)
end
end Go.Proofs.YthddlkhfkncgpaaGreat
