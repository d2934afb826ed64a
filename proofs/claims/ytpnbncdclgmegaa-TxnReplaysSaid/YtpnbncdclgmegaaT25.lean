/-
  Serial replay: what was committed, one behind the other, reads what it read.
-/
import Derived.Test.YtpnbncdclgmegaaT24
import Derived.Test.YtpnbncdclgmegaaC1a
set_option maxRecDepth 100000
set_option maxHeartbeats 1000000
set_option linter.unusedVariables false
set_option linter.unusedSimpArgs false
namespace Go.Proofs.Ytpnbncdclgmegaa
open Go.RowKit

def rA (l : List Act) : List (List D) := l.map fun a => [.bool a.1, .int .i64 a.2.1, .int .i64 a.2.2.1, .int .u16 a.2.2.2]
@[simp] theorem rA_len (l : List Act) : (rA l).length = l.length := by simp [rA]
def rowD (d : Deed) : List D := [.int .u64 d.q, .bool d.w, .ls 4 d.acts.length (rA d.acts)]
def rDd (l : List Deed) : List (List D) := l.map rowD
@[simp] theorem rDd_len (l : List Deed) : (rDd l).length = l.length := by simp [rDd]
abbrev lDd (l : List Deed) : D := .ls 3 l.length (rDd l)
/-- All that was committed is as it should be. -/
structure RG (L : Chs) (last : Int) (did : List Deed) : Prop where
  l0 : 0 ≤ last
  vr : ∀ k, ChS last (chK L k)
  len : did.length ≤ 80
  al : ∀ d ∈ did, d.acts.length ≤ 80
  di : ∀ d ∈ did, DI L last d
  d2 : ∀ m : Int, 1 ≤ m → m ≤ last → ∃ (j : Nat) (d : Deed), did[j]? = some d ∧ d.w = true ∧ d.q = m
  d3 : ∀ (j j' : Nat) (d d' : Deed), did[j]? = some d → did[j']? = some d' → d.w = true → d'.w = true → d.q = d'.q → j = j'
def keyD (d : Deed) : Int := 2 * d.q + (if d.w then 0 else 1)
/-- What plain registers hold. -/
structure NowI (m : Nat) (now : List Cel) (f : Key → Int) : Prop where
  srt : Srt now
  ok : AllOk now
  len : now.length ≤ m
  eq : ∀ t a, AdB a → (getL now t a).1 = f (t, a)
theorem NowI.put {m : Nat} {now : List Cel} {f : Key → Int} (h : NowI m now f) {c : Cel} (hc : CelOk c) : NowI (m + 1) (putL now c) (stpA f (true, c)) := by
  obtain ⟨e1, e2, _⟩ := putL_srt h.srt h.ok hc
  refine ⟨e1, e2, by have := putL_len now c; have := h.len; omega, fun t a ha => ?_⟩
  rw [getL_put h.srt h.ok hc ha]
  have hke : (c.1 = t ∧ c.2.1 = a) ↔ keyC c = (t, a) := by simp [keyC, Prod.mk.injEq]
  by_cases hk : keyC c = (t, a)
  · simp [if_pos (hke.2 hk), stpA, hk]
  · simp only [if_neg fun e => hk (hke.1 e), stpA, if_true, hk, if_false]
    exact h.eq t a ha
theorem NowI.conv {m m' : Nat} {now : List Cel} {f g : Key → Int} (h : NowI m now f) (hm : m ≤ m') (hfg : ∀ t a, AdB a → f (t, a) = g (t, a)) : NowI m' now g :=
  ⟨h.srt, h.ok, by have := h.len; omega, fun t a ha => by rw [h.eq t a ha, hfg t a ha]⟩
/-- How far the replay is. -/
structure OutI (L : Chs) (last : Int) (did : List Deed) (i : Nat) (left : List Bool) (w : Int) : Prop where
  len : left.length = did.length
  cnt : left.count true = i
  w0 : 0 ≤ w ∧ w ≤ last
  i1 : ∀ (j : Nat) d, did[j]? = some d → d.w = true → (left[j]? = some true ↔ d.q ≤ w)
  i2 : ∀ (j : Nat) d, did[j]? = some d → d.w = false → left[j]? = some false → w ≤ d.q
theorem OutI.start {L : Chs} {last : Int} {did : List Deed} (h : RG L last did) : OutI L last did 0 (List.replicate did.length false) 0 := by
  refine ⟨by simp, by simp [List.count_replicate], ⟨Int.le_refl _, h.l0⟩, fun j d hd hw => ?_, fun j d hd hw _ => ((h.di d (List.mem_of_getElem? hd)).q0).1⟩
  have := (h.di d (List.mem_of_getElem? hd)).qw hw
  constructor
  · intro e
    rw [List.getElem?_replicate] at e
    split at e <;> cases e
  · intro e; omega
/-- The best among the first j that are left. -/
def BestI (did : List Deed) (left : List Bool) (j : Nat) (b : Int) : Prop :=
  (b = -1 ∧ ∀ u, u < j → left[u]? = some true) ∨ ∃ (n : Nat) (d : Deed), b = n ∧ n < j ∧ did[n]? = some d ∧ left[n]? = some false ∧ ∀ (u : Nat) d', u < j → did[u]? = some d' → left[u]? = some false → keyD d ≤ keyD d'
theorem count_all : ∀ {l : List Bool}, (∀ u, u < l.length → l[u]? = some true) → l.count true = l.length
  | [], _ => rfl
  | b :: l, h => by
    have h0 := h 0 (by simp)
    simp at h0
    subst h0
    have := count_all (l := l) fun u hu => by have := h (u + 1) (by simp; omega); simpa using this
    simp [this]
theorem OutI.best {L : Chs} {last : Int} {did : List Deed} {i : Nat} {left : List Bool} {w : Int} (h : OutI L last did i left w) (hi : i < did.length) {b : Int} (hb : BestI did left did.length b) :
    ∃ (n : Nat) (d : Deed), b = n ∧ n < did.length ∧ did[n]? = some d ∧ left[n]? = some false ∧ ∀ (u : Nat) d', u < did.length → did[u]? = some d' → left[u]? = some false → keyD d ≤ keyD d' := by
  rcases hb with ⟨_, h2⟩ | hb
  · have := count_all (l := left) fun u hu => h2 u (by have := h.len; omega)
    have := h.cnt
    have := h.len
    omega
  · exact hb
theorem OutI.step {L : Chs} {last : Int} {did : List Deed} (hG : RG L last did) {i : Nat} {left : List Bool} {w : Int} (h : OutI L last did i left w) {n : Nat} {d : Deed} (hd : did[n]? = some d) (hl : left[n]? = some false)
    (hm : ∀ (u : Nat) d', u < did.length → did[u]? = some d' → left[u]? = some false → keyD d ≤ keyD d') : d.base = w ∧ OutI L last did (i + 1) (left.set n true) d.q := by
  have hDI := hG.di d (List.mem_of_getElem? hd)
  have hnl : n < left.length := (List.getElem?_eq_some_iff.1 hl).1
  have hcnt : (left.set n true).count true = i + 1 := by
    have := h.cnt
    have hf : left[n] = false := by rw [List.getElem?_eq_getElem hnl] at hl; simpa using hl
    rw [List.count_set hnl]
    simp [hf, this]
  have hlt : ∀ j d', did[j]? = some d' → j < did.length := fun j d' hj => (List.getElem?_eq_some_iff.1 hj).1
  have hbool : ∀ j d', did[j]? = some d' → left[j]? ≠ some true → left[j]? = some false := fun j d' hj hne => by
    have hj2 := hlt j d' hj
    have : j < left.length := by rw [h.len]; exact hj2
    rw [List.getElem?_eq_getElem this] at hne ⊢
    cases hb : left[j] with
    | true => rw [hb] at hne; exact absurd rfl hne
    | false => rfl
  have hset : ∀ j, (left.set n true)[j]? = if n = j then some true else left[j]? := fun j => by
    rw [List.getElem?_set]
    by_cases e : n = j
    · subst e; simp [hnl]
    · simp [e]
  cases hw : d.w with
  | true =>
    have hgt : w < d.q := by
      rcases Int.lt_or_le w d.q with hh | hh
      · exact hh
      · have := (h.i1 n d hd hw).2 hh
        rw [hl] at this; cases this
    have hq : d.q = w + 1 := by
      rcases Int.lt_or_le (w + 1) d.q with hh | hh
      · obtain ⟨j, d', hj, hw', hq'⟩ := hG.d2 (w + 1) (by have := h.w0.1; omega) (by have := hDI.q0.2; omega)
        have hnot : left[j]? = some false := hbool j d' hj fun e => by have := (h.i1 j d' hj hw').1 e; omega
        have := hm j d' (hlt j d' hj) hj hnot
        unfold keyD at this
        rw [hw, hw'] at this
        simp at this
        omega
      · omega
    refine ⟨by unfold Deed.base; rw [hw]; simp only [if_true]; omega, by simpa using h.len, hcnt, hDI.q0, fun j d' hj hw' => ?_, fun j d' hj hw' hlf => ?_⟩
    · rw [hset]
      by_cases e : n = j
      · subst e
        rw [hd] at hj
        cases hj
        simp
      · rw [if_neg e, h.i1 j d' hj hw']
        have : d'.q ≠ d.q := fun e2 => e (hG.d3 n j d d' hd hj hw hw' e2.symm)
        omega
    · rw [hset] at hlf
      by_cases e : n = j
      · rw [if_pos e] at hlf; cases hlf
      · rw [if_neg e] at hlf
        have := hm j d' (hlt j d' hj) hj hlf
        unfold keyD at this
        rw [hw, hw'] at this
        simp at this
        omega
  | false =>
    have h2 := h.i2 n d hd hw hl
    have hq : d.q = w := by
      rcases Int.lt_or_le w d.q with hh | hh
      · obtain ⟨j, d', hj, hw', hq'⟩ := hG.d2 (w + 1) (by have := h.w0.1; omega) (by have := hDI.q0.2; omega)
        have hnot : left[j]? = some false := hbool j d' hj fun e => by have := (h.i1 j d' hj hw').1 e; omega
        have := hm j d' (hlt j d' hj) hj hnot
        unfold keyD at this
        rw [hw, hw'] at this
        simp at this
        omega
      · omega
    refine ⟨by unfold Deed.base; rw [hw]; simpa using hq, by simpa using h.len, hcnt, hDI.q0, fun j d' hj hw' => ?_, fun j d' hj hw' hlf => ?_⟩
    · rw [hset]
      by_cases e : n = j
      · subst e
        rw [hd] at hj
        cases hj
        rw [hw] at hw'
        cases hw'
      · rw [if_neg e, h.i1 j d' hj hw', hq]
    · rw [hset] at hlf
      by_cases e : n = j
      · rw [if_pos e] at hlf; cases hlf
      · rw [if_neg e] at hlf
        rw [hq]
        exact h.i2 j d' hj hw' hlf
end Go.Proofs.Ytpnbncdclgmegaa
