/-
  Spans by numbers; what the deeds of one session leave of another.
-/
import Derived.Test.YtpnbncdclgmegaaS5
set_option maxRecDepth 100000
set_option maxHeartbeats 1000000
set_option linter.unusedVariables false
set_option linter.unusedSimpArgs false
namespace Go.Proofs.Ytpnbncdclgmegaa
open Go.RowKit

def spanG (k : Int) : Spn :=
  let f := if dig k 1920 16 = 0 then 65496 + dig k 4 40 else dig k 4 40
  let n := if dig k 1920 16 = 1 then 1 + 100 * dig k 160 12 else 1 + dig k 160 12
  (k % 4, f, if 65536 < f + n then 65536 else f + n)
theorem span_ok {k : Int} (hk : b64 k) : FnOk Try.prog 24 [vI .i64 k] [] (vS3 (spanG k)) [] := by
  have h1 := within_ok (k := k) (n := 4) hk (by omega)
  have h2 := digit_ok (k := k) (d := 4) (n := 40) hk (by omega) (by omega)
  have h3 := digit_ok (k := k) (d := 160) (n := 12) hk (by omega) (by omega)
  have h4 := digit_ok (k := k) (d := 1920) (n := 16) hk (by omega) (by omega)
  have r2 := digR k 4 (n := 40) (by omega)
  have r3 := digR k 160 (n := 12) (by omega)
  unfold spanG
  generalize dig k 4 40 = f at *
  generalize dig k 160 12 = n at *
  generalize dig k 1920 16 = w at *
  by_cases hw : w = 0
  · subst hw
    refine FnOk.tree t24 (.f [] h1 (.f [] h2 (.f [] h3 (.f [] h4 (.a (.b 15 true) .nil))))) rfl rfl rfl rfl ?_
    simp [leVs, leP, leE, leL, leC]
    omega
  · by_cases hw1 : w = 1
    · subst hw1
      refine FnOk.tree t24 (.f [] h1 (.f [] h2 (.f [] h3 (.f [] h4 (.a (.b 15 false) (.a (.b 21 true) (.f [] h3 .nil))))))) rfl rfl rfl rfl ?_
      simp [leVs, leP, leE, leL, leC]
      omega
    · refine FnOk.tree t24 (.f [] h1 (.f [] h2 (.f [] h3 (.f [] h4 (.a (.b 15 false) (.a (.b 21 false) .nil)))))) rfl rfl rfl rfl ?_
      simp [leVs, leP, leE, leL, leC, hw, hw1]
      omega
structure Vb (v : Vw) : Prop where
  R : v.R.length ≤ 20
  W : v.W.length ≤ 20
  rs : ∀ x ∈ v.R, SpB x
  ws : ∀ c ∈ v.W, CeB c
theorem Vb.ok {v : Vw} (h : Vb v) : VwOk v := ⟨by have := h.R; omega, by have := h.W; omega, h.rs, h.ws⟩
theorem Vb.nil (q : Int) : Vb ⟨q, [], []⟩ := ⟨by simp, by simp, by simp, by simp⟩
abbrev Mb (M : Mo) : Prop := ∀ e ∈ M.es, Vb e.2.2
theorem Mb.get {M : Mo} (h : Mb M) {k : Int} {v : Vw} (hg : M.get k = some v) : Vb v := by
  unfold Mo.get at hg
  obtain ⟨e, h1, rfl⟩ := Option.map_eq_some_iff.1 hg
  exact h e (List.mem_of_getElem? h1)
theorem Mb.set {M : Mo} (h : Mb M) {k : Int} {v : Vw} (hv : Vb v) : Mb (M.set k v) := by
  unfold Mo.set
  split
  · intro e he
    obtain ⟨j, hj⟩ := List.mem_iff_getElem?.1 he
    rw [List.getElem?_modify] at hj
    cases hL : M.es[j]? with
    | none => rw [hL] at hj; simp at hj
    | some x =>
      rw [hL] at hj
      by_cases hi : M.at k = j
      · simp [hi] at hj; subst hj; exact hv
      · simp [hi] at hj; subst hj; exact h x (List.mem_of_getElem? hL)
  · intro e he
    rcases List.mem_append.1 he with he | he
    · exact h e he
    · simp at he; subst he; exact hv
theorem Mb.del {M : Mo} (h : Mb M) {k : Int} : Mb (M.del k) := fun e he => h e (List.mem_of_mem_eraseIdx he)
theorem stG_set_ne {A : Ao} {k j : Int} {v : Ses} (h : j ≠ k) : stG (A.set k v) j = stG A j := by unfold stG; rw [Ao.get_set_ne h]
theorem stG_del_ne {A : Ao} {k j : Int} (h : j ≠ k) : stG (A.del k) j = stG A j := by unfold stG; rw [Ao.get_del_ne h]
/-- A store behind i deeds. -/
structure Sb (i : Nat) (s : St) : Prop where
  L : s.L.length ≤ 20 * i
  ch : ChOk (20 * i) s.L
  last : 0 ≤ s.last ∧ s.last ≤ i
  n : 0 ≤ s.n ∧ s.n ≤ 1000
  most : s.most = 1000
theorem ChOk.mono {m n : Nat} {L : Chs} (h : ChOk m L) (hn : m ≤ n) : ChOk n L := fun e he => by have := h e he; omega
theorem Sb.mono {i : Nat} {s : St} (h : Sb i s) : Sb (i + 1) s := ⟨by have := h.L; omega, h.ch.mono (by omega), by have := h.last; omega, h.n, h.most⟩
theorem Sb.go {i : Nat} {s : St} (h : Sb i s) (hi : i ≤ 1000) : StGo s := ⟨by have := h.L; omega, h.ch.mono (by omega), by have := h.last; omega, by have := h.n; omega, by have := h.most; omega⟩
theorem Sb.ins {i : Nat} {s : St} (h : Sb i s) {l : List Cel} (hl : l.length ≤ 20) : Sb (i + 1) (instR s l).2.2 := by
  unfold instR
  split
  · exact h.mono
  · split
    · exact h.mono
    · split
      · exact h.mono
      · rename_i _ _ hlt
        have hm := h.most
        have hn := h.n
        have h1 := addsK_len (q := s.last + 1) l s.L
        have h2 := addsK_ok (q := s.last + 1) l h.ch
        have h3 := h.L
        have h4 := h.last
        refine ⟨?_, ?_, ?_, ?_, hm⟩
        · simp only; omega
        · simp only; exact h2.mono (by omega)
        · simp only; omega
        · simp only; omega
/-- What stands while one session (1) does what it does; the others: h, a tell of 9. -/
structure Iv (h : Bool) (a : Ses) (i : Nat) (x : Ss) : Prop where
  t : x.t = 1000
  e : x.e = ⟨4, 20, 20⟩
  a9 : stG x.A 9 = a
  a5 : stG x.A 5 = ⟨0, 0, 0, 0⟩
  m9 : vwR (x.M.get 9) = .tup [eVw 0 [] [], .c (.t (.bool h))]
  mb : Mb x.M
  s : Sb i x.s
theorem Iv.go {h : Bool} {a : Ses} {i : Nat} {x : Ss} (v : Iv h a i x) (hi : i ≤ 1000) (c : Int) : SsGo x c := ⟨v.s.go hi, fun u hu => (v.mb.get hu).ok⟩
section
variable {h : Bool} {a : Ses} {i : Nat} {x : Ss}
theorem Iv.mono (v : Iv h a i x) : Iv h a (i + 1) x := ⟨v.t, v.e, v.a9, v.a5, v.m9, v.mb, v.s.mono⟩
theorem Iv.turn (v : Iv h a i x) {st re q : Int} : Iv h a i (turnR x 1 st re q) := by
  refine ⟨v.t, v.e, ?_, ?_, v.m9, v.mb, v.s⟩
  · show stG (x.A.set 1 _) 9 = a
    rw [stG_set_ne (by omega)]; exact v.a9
  · show stG (x.A.set 1 _) 5 = _
    rw [stG_set_ne (by omega)]; exact v.a5
theorem Iv.mset (v : Iv h a i x) {u : Vw} (hu : Vb u) : Iv h a i { x with M := x.M.set 1 u } :=
  ⟨v.t, v.e, v.a9, v.a5, by show vwR ((x.M.set 1 u).get 9) = _; rw [Mo.get_set_ne (by omega)]; exact v.m9, v.mb.set hu, v.s⟩
theorem Iv.mdel (v : Iv h a i x) : Iv h a i { x with M := x.M.del 1 } :=
  ⟨v.t, v.e, v.a9, v.a5, by show vwR ((x.M.del 1).get 9) = _; rw [Mo.get_del_ne (by omega)]; exact v.m9, v.mb.del, v.s⟩
theorem Iv.st (v : Iv h a i x) {s : St} (hs : Sb (i + 1) s) : Iv h a (i + 1) { x with s := s } := ⟨v.t, v.e, v.a9, v.a5, v.m9, v.mb, hs⟩
theorem Iv.begin (v : Iv h a i x) : Iv h a i (beginR x 1).2 := by
  unfold beginR
  split
  · exact v
  · have hM : Iv h a i { x with M := (begR x.e x.s x.M 1).2 } := by
      unfold begR
      split
      · exact v
      · split
        · exact v
        · exact v.mset (Vb.nil _)
    split
    · exact hM
    · refine ⟨v.t, v.e, ?_, ?_, hM.m9, hM.mb, v.s⟩
      · show stG (x.A.set 1 _) 9 = a
        rw [stG_set_ne (by omega)]; exact v.a9
      · show stG (x.A.set 1 _) 5 = _
        rw [stG_set_ne (by omega)]; exact v.a5
theorem Iv.met (v : Iv h a i x) {e : Int} : Iv h a i (metR x 1 e) := by
  unfold metR
  split
  · exact v.turn
  · exact v
theorem Iv.keep (v : Iv h a i x) {u : Vw} {e : Int} (hu : e = 0 → Vb u) : Iv h a i { x with M := keepR x.M 1 u e } := by
  unfold keepR
  split
  · rename_i he; exact v.mset (hu he)
  · exact v.mdel
theorem Iv.read (v : Iv h a i x) {sp : Spn} (hb : spnR sp = true → SpB sp) : Iv h a i (sreadR x 1 sp).2.2 := by
  unfold sreadR
  split
  · exact v
  · rename_i hsp
    have hsp := hb (by simpa using hsp)
    split
    · refine Iv.met ?_
      show Iv h a i { x with M := (readR x.e x.s x.M 1 sp).2.2 }
      unfold readR
      split
      · exact v
      · cases hg : x.M.get 1 with
        | none => exact v
        | some u =>
          have hu := v.mb.get hg
          refine v.keep fun he => ?_
          unfold vrdR at he ⊢
          split
          · rename_i hlt; rw [if_pos hlt] at he; simp at he
          · rename_i hlt
            have hes : x.e.spans = 20 := by rw [v.e]
            rw [hes] at hlt
            exact ⟨by simp only; omega, hu.W, addsS_rng _ _ hu.rs (restL_rng hu.ws hsp), hu.ws⟩
    · split <;> exact v
theorem putL_mem {l : List Cel} {c y : Cel} (hy : y ∈ putL l c) : y ∈ l ∨ y = c := by
  unfold putL at hy
  rcases List.mem_append.1 hy with hy | hy
  · exact .inl (List.mem_of_mem_take hy)
  · rcases List.mem_cons.1 hy with rfl | hy
    · exact .inr rfl
    · exact .inl (List.mem_of_mem_drop hy)
theorem Iv.write (v : Iv h a i x) {c : Cel} (hc : CeB c) : Iv h a (i + 1) (swriteR x 1 [c]).2 := by
  unfold swriteR
  split
  · refine Iv.mono (Iv.met ?_)
    show Iv h a i { x with M := (writeR x.e x.M 1 [c]).2 }
    unfold writeR
    split
    · exact v
    · cases hg : x.M.get 1 with
      | none => exact v
      | some u =>
        have hu := v.mb.get hg
        refine v.keep fun he => ?_
        unfold vwrR at he ⊢
        split
        · rename_i hlt; rw [if_pos hlt] at he; simp at he
        · rename_i hlt
          have hes : x.e.writes = 20 := by rw [v.e]
          rw [hes] at hlt
          exact ⟨hu.R, by simp only; omega, hu.rs, fun y hy => by
            rcases putL_mem (l := u.W) (c := c) hy with hy | rfl
            · exact hu.ws y hy
            · exact hc⟩
  · split
    · exact v.mono
    · exact v.st (v.s.ins (by simp))
theorem Iv.commit (v : Iv h a i x) : Iv h a (i + 1) (scomR x 1).2 := by
  unfold scomR
  split
  · exact v.mono
  · refine Iv.turn ?_
    unfold comR
    cases hg : x.M.get 1 with
    | none => exact v.mono
    | some u =>
      have hu := v.mb.get hg
      simp only
      split
      · exact v.mdel.mono
      · split
        · exact v.mdel.mono
        · exact v.mdel.st (v.s.ins hu.W)
theorem Iv.abort (v : Iv h a i x) : Iv h a i (sabR x 1).2 := by
  unfold sabR
  split
  · exact v
  · exact v.mdel.turn
theorem Iv.hear (v : Iv h a i x) : Iv h a i (hearR x 1) := by
  unfold hearR
  split
  · exact ⟨v.t, v.e, v.a9, v.a5, v.m9, v.mb, v.s⟩
  · exact v
theorem Iv.close (v : Iv h a i x) : Iv h a i (closeR x 1).2 := by
  unfold closeR
  have hM : Iv h a i { x with M := if ((stG x.A 1).st == 1) = true then x.M.del 1 else x.M } := by
    split
    · exact v.mdel
    · exact v
  refine ⟨v.t, v.e, ?_, ?_, hM.m9, hM.mb, v.s⟩
  · show stG (x.A.del 1) 9 = a
    rw [stG_del_ne (by omega)]; exact v.a9
  · show stG (x.A.del 1) 5 = _
    rw [stG_del_ne (by omega)]; exact v.a5
end
end Go.Proofs.Ytpnbncdclgmegaa
