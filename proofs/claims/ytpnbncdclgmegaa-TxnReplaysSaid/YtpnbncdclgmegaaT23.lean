/-
  A nil in a box as a list of its own.
-/
import Derived.Test.YtpnbncdclgmegaaT20a
set_option maxRecDepth 100000
set_option linter.unusedVariables false
set_option linter.unusedSimpArgs false
namespace Go.Proofs.Ytpnbncdclgmegaa
open Go.RowKit

theorem Rl.reO {w : World} {g : Gh} {h h' : Nat → Ob} {j : Nat} (hR : Rl w g h) (hs : ∀ i, i ≠ j → h' i = h i) (hl : (h' j).live = (h j).live) (ho : (h' j).live = true → HO w g j (h' j)) : Rl w g h' := by
  have hlv : ∀ i, (h' i).live = (h i).live := fun i => by
    by_cases e : i = j
    · rw [e]; exact hl
    · rw [hs i e]
  refine ⟨fun i hi => ?_, fun i k b hi hk => hR.disj i k b ((hlv i).symm.trans hi) ((hlv k).symm.trans hk), fun i b hi => hR.imm i b ((hlv i).symm.trans hi), hR.lt⟩
  by_cases e : i = j
  · subst e; exact ho hi
  · rw [hs i e]
    exact hR.objs i ((hlv i).symm.trans hi)
theorem Tri.ownB {P : Program} {N n0 : Nat} {ρ : Env} {hl : List Ob} {Q : Exit → Env → List Ob → Prop} {c : AC} (j q sz : Nat) {cs : List C} (hsz : 0 < sz) (hj : hl[j]? = some (.box cs)) (hq : cs[q]? = some (.t .nil))
    (h : Tri P N n0 c ρ (hl.set j (.box (cs.set q (.sl hl.length 0 0))) ++ [.arr sz []]) Q) : Tri P N n0 c ρ hl Q := by
  intro code hc w0 g0 h0 df a w ⟨h1, h2, h3, g, hR, hμ, he, hF⟩
  refine h code hc w0 g0 h0 df a w ?_
  have hd : hx hl hl.length = .dead := by simp [hx, List.getD_eq_getElem?_getD]
  have hjl : j < hl.length := (List.getElem?_eq_some_iff.1 hj).1
  obtain ⟨q1, q2⟩ := alloc1 (w' := w) (base := hl.length) hR (Keeps.refl _ _) (fun i hi => by rw [isNew1] at hi; subst hi; exact ⟨hμ _ (Nat.le_refl _), hd⟩) ⟨0, true, sz, 0⟩ (fun _ => False) (.arr sz []) (fun b hb => hb.elim)
    ⟨hsz, _, Gh.set_at _ _ _ _, rfl, .inl ⟨rfl, rfl, rfl, fun b hb => by rw [Gh.set_fp] at hb; exact hb⟩⟩ .u []
  have happ : hx (hl ++ [.arr sz []]) = Res.app { v := .u, nw := [.arr sz []] } hl.length (hx hl) := by
    have := appL_get (s := { v := .u, nw := [.arr sz []] }) (hl := hl) (fun i hi => by simp [Res.ids] at hi)
    simpa [appL, setAll] using this
  rw [← happ] at q1
  have hget : ∀ i, hx (hl.set j (.box (cs.set q (.sl hl.length 0 0))) ++ [.arr sz []]) i = if i = j then .box (cs.set q (.sl hl.length 0 0)) else hx (hl ++ [.arr sz []]) i := by
    intro i
    simp only [hx, List.getD_eq_getElem?_getD]
    by_cases e : i = j
    · subst e
      rw [if_pos rfl, List.getElem?_append_left (by simpa using hjl), List.getElem?_set]
      simp [hjl]
    · rw [if_neg e]
      by_cases hi : i < hl.length
      · rw [List.getElem?_append_left (by simpa using hi), List.getElem?_append_left hi, List.getElem?_set]
        simp [Ne.symm e]
      · rw [List.getElem?_append_right (by simpa using hi), List.getElem?_append_right (by omega)]
        simp
  have hjb : hx (hl ++ [.arr sz []]) j = .box cs := by
    simp only [hx, List.getD_eq_getElem?_getD, List.getElem?_append_left hjl, hj]
    rfl
  have hR2 : Rl w (g.set hl.length ⟨0, true, sz, 0⟩ fun _ => False) (hx (hl.set j (.box (cs.set q (.sl hl.length 0 0))) ++ [.arr sz []])) := by
    refine q1.reO (j := j) (fun i hi => by rw [hget, if_neg hi]) (by rw [hget, if_pos rfl, hjb]; rfl) fun _ => ?_
    rw [hget, if_pos rfl]
    obtain ⟨l, arr, ty, m1, m2, m3, m4, m5, m6⟩ := hjb ▸ q1.objs j (by rw [hjb]; rfl)
    refine ⟨l, arr, ty, m1, m2, m3, by simpa using m4, fun p c hp => ?_, m6⟩
    rw [List.getElem?_set] at hp
    split at hp
    · rename_i e3
      subst e3
      split at hp
      · cases hp
        obtain ⟨v, v1, v2⟩ := m5 _ _ hq
        refine ⟨v, v1, ?_⟩
        cases v2 with
        | t hv =>
          cases hv with
          | nil A => exact .slz (l := ⟨0, true, sz, 0⟩) 0 A (Gh.set_at _ _ _ _) rfl
      · cases hp
    · exact m5 _ _ hp
  have hF2 := hF.step q2 h3 (fun i h1 h2 => app_same (s := { v := .u, nw := [.arr sz []] }) h1 h2)
  refine ⟨h1, h2, by simp; omega, _, hR2, fun i hi => ?_, fun t' v hv' => (he t' v hv').more (fun _ _ => rfl) q2.gm, ⟨hF2.keeps, hF2.I, hF2.In, hF2.μ, fun b ⟨i, hi, hb⟩ => hF2.own b ⟨i, ?_, hb⟩⟩⟩
  · simp at hi
    have : ¬ i = hl.length := by omega
    simp only [Gh.set, if_neg this]
    exact hμ i (by omega)
  · rw [← happ]
    rw [hget] at hi
    split at hi
    · rename_i e; rw [e, hjb]; rfl
    · exact hi
end Go.Proofs.Ytpnbncdclgmegaa
